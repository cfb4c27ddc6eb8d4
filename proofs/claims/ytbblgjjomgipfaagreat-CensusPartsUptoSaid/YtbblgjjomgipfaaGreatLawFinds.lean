/- riddlelaw19.CensusFinds. No conditions. -/
import Derived.Test.YtbblgjjomgipfaaGreatDo
import Derived.Test.YtbblgjjomgipfaaGreatLints
import Derived.Test.YtbblgjjomgipfaaGreatCnt0
import Derived.Test.YtbblgjjomgipfaaGreatKnown
import Derived.BigRegion
import Derived.RegionTactic
import Derived.ChangeAlike
import Derived.Lib.SliceRun
namespace Go.Proofs.YtbblgjjomgipfaaGreat
open Go.RowKit Go.Shelf

/-- What is asked, as a value: which set, three numbers. -/
def Lv (w : World) (X : Nat → Prop) (v : Value) (i : Int) (x y z : Z) : Prop := ∃ A a B b C c, v = .agg #[.int .i64 i, .bool x.neg, .slice A x.mag.length a, .bool y.neg, .slice B y.mag.length b, .bool z.neg, .slice C z.mag.length c] ∧ Nl w X A a x.mag ∧ Nl w X B b y.mag ∧ Nl w X C c z.mag

/-- A number and no error. -/
def phiC (z : Z) : PhiT := ⟨fun v w => ∃ r, v = .tuple #[r, .int .i64 0] ∧ Zi w (fun _ => True) r z, fun _ _ _ hx ⟨r, h1, h2⟩ => ⟨r, h1, h2.ext hx⟩⟩
theorem mk_zl {ms : List Mk} {w : World} {X : Nat → Prop} {A : Option Addr} {c N : Nat} (hm : Ms w X A c ms) (hN : 1 ≤ N) (hsz : ∀ m ∈ ms, m.sz N) : ∀ m ∈ ms, zl (m.k.v + 1) ≤ N + 1 := fun m hmm => by
  obtain ⟨i, hi, rfl⟩ := List.getElem_of_mem hmm
  obtain ⟨_, _, _, _, _, _, _, _, _, _, _, _, _, _, _, hn, _⟩ := Ms.at_ hm hi
  exact zl_add (Nat.le_trans (zl_of hn.lt) (hsz _ hmm).2.2.2.1) (Nat.le_trans (show zl 1 ≤ 1 by decide) hN)
theorem take12 (ms : List Mk) : ms.take 12 = ms.take (min ms.length 12) := by
  rcases Nat.le_total ms.length 12 with h | h
  · rw [Nat.min_eq_left h, List.take_of_length_le h, List.take_of_length_le (Nat.le_refl _)]
  · rw [Nat.min_eq_right h]
/-- The sets that are made may be. -/
theorem build_ok {ms : List Mk} {w : World} {X : Nat → Prop} {A : Option Addr} {c N : Nat} (hm : Ms w X A c ms) (hN : 1 ≤ N) (hsz : ∀ m ∈ ms, m.sz N) : 0 < (buildF ms).length ∧ (buildF ms).length ≤ 13 ∧ ∀ s ∈ buildF ms, s.ok (N + 1) ∧ s.cuts.length ≤ 4096 := by
  have hb := buildK_ok (ms := ms) (N := N + 1) (mk_zl hm hN hsz) (k := min ms.length 12) (by omega) (by omega)
  have hp : 2 ^ (min ms.length 12) ≤ 4096 := Nat.pow_le_pow_right (by omega) (show min ms.length 12 ≤ 12 by omega)
  unfold buildF
  rw [take12]
  exact ⟨hb.pos, by have := hb.len; omega, fun s hs => ⟨hb.ok s hs, Nat.le_trans (hb.cut s hs) hp⟩⟩

set_option maxRecDepth 100000 in
set_option maxHeartbeats 3200000 in
theorem lawfinds_c {ms : List Mk} {v : Value} {i : Int} {x y z : Z} {w : World} {X Y : Nat → Prop} {A : Option Addr} {c N : Nat} (hm : Ms w X A c ms) (hl : Lv w Y v i x y z) (hN : 2 ≤ N) (hN2 : N ≤ 4294967296) (hsz : ∀ m ∈ ms, m.sz N) (hi : i64 i) (hx : x.mag.length ≤ N) (hy : y.mag.length ≤ N) :
    Calls Tryz.prog 4 #[.slice A ms.length c, v] w fun e w' => e = .returned (.bool true) ∧ Ext w w' := by
  obtain ⟨Ax, ax, Ay, ay, Az, az, rfl, nx, ny, nz⟩ := hl
  go_enter Tryz.func4, Tryz.ntmps4
  go_upto_region 1 with fail
  refine wp_named fun W hW => ?_
  have b3 : Box W w.heap.size 27 #[.int .i64 i, .bool x.neg, .slice Ax x.mag.length ax, .bool y.neg, .slice Ay y.mag.length ay, .bool z.neg, .slice Az z.mag.length az] := by rw [hW]; exact (by repeat (first | with_reducible assumption | with_reducible exact Box.new _ _ _ | (with_reducible refine Box.new_at _ _ _ ?_; (simp only [wsz]; done)) | with_reducible refine Box.drewN ?_ _ | with_reducible refine Box.drew ?_ | with_reducible refine Box.alloc ?_ _ | with_reducible apply Box.drewN | with_reducible apply Box.drew | with_reducible apply Box.alloc | with_reducible refine Box.set_ ?_ _ _ | (with_reducible refine Box.far ?_ ?_ _; rotate_left; (simp only [ne_eq]; omega)) | (with_reducible refine Box.ext ?_ (by with_reducible assumption)) | (refine Box.new_at _ _ _ ?_; simp only [wsz]; done)))
  have hE : Ext w W := by rw [hW]; exact (by repeat (first | with_reducible assumption | with_reducible exact Ext.refl _ | with_reducible refine Ext.drewN ?_ _ | with_reducible refine Ext.drew ?_ | with_reducible refine Ext.alloc ?_ _ | (with_reducible refine Ext.setCell ?_ ?_ _; rotate_left; (first | exact Nat.le_refl _ | (dsimp only; omega) | (simp only [wsz]; omega))) | (with_reducible refine Ext.trans ?_ (by with_reducible assumption))))
  clear hW
  have b3r := b3.rules; have b3l := b3.lt
  go_cut [5, 6, 7] (fun s5 s6 s7 wx => ∃ g6 g7, s5 = .int .i64 i ∧ s6 = .pointer (some ⟨g6, 0, none⟩) ∧ s7 = .pointer (some ⟨g7, 0, none⟩) ∧ Box wx g6 25 #[.bool x.neg, .slice Ax x.mag.length ax] ∧ Box wx g7 25 #[.bool y.neg, .slice Ay y.mag.length ay] ∧ g6 ≠ g7 ∧ W.heap.size ≤ g6 ∧ W.heap.size ≤ g7 ∧ Ext W wx)
  case first =>
    go_region
    all_goals
      go_wp2_with fail
      go_meet
      first
        | exact ⟨_, _, rfl, rfl, rfl, (Box.new_at _ _ _ (by simp only [wsz])).drew, ((Box.new _ _ _).alloc _).drew, by omega, by omega, by omega, (by repeat (first | with_reducible assumption | with_reducible exact Ext.refl _ | with_reducible refine Ext.drewN ?_ _ | with_reducible refine Ext.drew ?_ | with_reducible refine Ext.alloc ?_ _ | (with_reducible refine Ext.setCell ?_ ?_ _; rotate_left; (first | exact Nat.le_refl _ | (dsimp only; omega) | (simp only [wsz]; omega))) | (with_reducible refine Ext.trans ?_ (by with_reducible assumption))))⟩
        | exact ⟨_, _, rfl, rfl, rfl, ((Box.new _ _ _).alloc _).drew, (Box.new_at _ _ _ (by simp only [wsz])).drew, by omega, by omega, by omega, (by repeat (first | with_reducible assumption | with_reducible exact Ext.refl _ | with_reducible refine Ext.drewN ?_ _ | with_reducible refine Ext.drew ?_ | with_reducible refine Ext.alloc ?_ _ | (with_reducible refine Ext.setCell ?_ ?_ _; rotate_left; (first | exact Nat.le_refl _ | (dsimp only; omega) | (simp only [wsz]; omega))) | (with_reducible refine Ext.trans ?_ (by with_reducible assumption))))⟩
  case rest =>
    obtain ⟨g6, g7, rfl, rfl, rfl, b6, b7, hne, l6, l7, hWc⟩ := hcut
    have hE1 := hE.trans hWc
    have hsW := hE.size
    clear b3 b3r b3l
    have hst := fun (U : World) (hU : Ext w U) => sets_c (Sl.keep hm (.of_ext hU)) hN hN2 hsz
    go_wp2_with fail
    refine (hst _ hE1).mono ?_
    rintro e w1 ⟨r, rfl, hO, hx1⟩
    have hE2 := hE1.trans hx1
    have c6 := b6.ext hx1; have c7 := b7.ext hx1
    obtain ⟨l, hl⟩ : ∃ l, l = buildF ms := ⟨_, rfl⟩
    rw [← hl] at hO
    obtain ⟨hpos, hl13, hok⟩ := build_ok hm (by omega) hsz
    rw [← hl] at hpos hl13 hok
    clear hl hst
    obtain ⟨AL, cL, rfl, hpy, hlc, hlcm⟩ := Own.ppy hO hpos
    have ik := pickN_lt i hpos
    have hsk := (hok _ (sth_mem ik)).1
    have hp := pick19_c i hi l.length hpos (by omega)
    obtain ⟨kk, hkk⟩ : ∃ kk, kk = pickN i l.length := ⟨_, rfl⟩
    rw [← hkk] at ik hsk hp
    obtain ⟨b, o, rfl, hat⟩ := hpy
    obtain ⟨g, qg, hS⟩ := hat kk ik
    have qgl := World.block_lt_of_cell? _ _ qg
    have kl : (kk : Int) < (l.length : Int) := by omega
    obtain ⟨s, hs⟩ : ∃ s, s = sth l kk := ⟨_, rfl⟩
    rw [← hs] at hsk hS
    clear hat hkk hs hO hok hm
    obtain ⟨n, hn⟩ : ∃ n, n = l.length := ⟨_, rfl⟩
    rw [← hn] at kl hp hlc ⊢
    have hnil := fun (U : World) => Lib.run_eql_slice_nil (P := Tryz.prog) U 28 31 (some ⟨b, o, none⟩) n cL 0 0 Tryz.underlying28
    have hsome : (some (⟨b, o, none⟩ : Addr)).isNone = false := rfl
    clear hn hpos hl13 ik
    go_wp2_with fail
    refine (known_c _).mono ?_
    rintro e w2 ⟨rfl, hx2⟩
    have hx12 : Ext w1 w2 := (by repeat (first | with_reducible assumption | with_reducible exact Ext.refl _ | with_reducible refine Ext.drewN ?_ _ | with_reducible refine Ext.drew ?_ | with_reducible refine Ext.alloc ?_ _ | (with_reducible refine Ext.setCell ?_ ?_ _; rotate_left; (first | exact Nat.le_refl _ | (dsimp only; omega) | (simp only [wsz]; omega))) | (with_reducible refine Ext.trans ?_ (by with_reducible assumption))))
    have q2 := (hx12.cells.1 b _ qgl).trans qg
    have q2l := Nat.lt_of_lt_of_le qgl hx12.size
    go_wp2_with fail
    refine (hp _).mono ?_
    rintro e w3 ⟨rfl, hx3⟩
    have hx13 := hx12.trans hx3
    have q3 := (hx3.cells.1 b _ q2l).trans q2
    have q3l := Nat.lt_of_lt_of_le q2l hx3.size
    have d6 := c6.ext hx13; have d7 := c7.ext hx13
    have d7r := d7.rules; have d7l := d7.lt
    clear q2 q2l
    have hE3 := hE2.trans hx13
    have hS3 := hS.ext hx13
    go_wp2_with fail
    have zx := Nat.le_trans (zl_of nx.lt) hx
    have zy := Nat.le_trans (zl_of ny.lt) hy
    have hnx3 := nx.ext hE3
    have hE36 := hE3.size
    have hab := rabs_c (w := w3) (⟨Ay, ay, rfl, ny.ext hE3⟩ : Zi w3 Y (.agg #[.bool y.neg, .slice Ay y.mag.length ay]) y) (by omega)
    obtain ⟨zd, hzd⟩ : ∃ zd, zd = cz ((y.v.natAbs : Nat) : Int) := ⟨_, rfl⟩
    rw [← hzd] at hab
    have zdl : zd.mag.length ≤ N := by
      rw [hzd, cz_len]
      refine Nat.le_trans (zl_abs ?_) zy
      omega
    refine hab.mono ?_
    rintro e w4 ⟨_, rfl, ⟨Ad, ad, rfl, nd⟩, hx4⟩
    have e6 := d6.ext hx4
    have hE4 := hE3.trans hx4
    have hn1 := fun (U : World) (hU : Ext w3 U) => next_c (hS3.ext hU) hsk (L := N + 1) (Nat.le_refl _) (by omega) (⟨Ax, ax, rfl, hnx3.ext hU⟩ : Zi U Y (.agg #[.bool x.neg, .slice Ax x.mag.length ax]) x) (by omega)
    have hl1 := fun (U : World) (hU : Ext w3 U) => last_c (hS3.ext hU) hsk (L := N + 1) (Nat.le_refl _) (by omega) (⟨Ax, ax, rfl, hnx3.ext hU⟩ : Zi U Y (.agg #[.bool x.neg, .slice Ax x.mag.length ax]) x) (by omega)
    have hc1 := fun (U : World) (hU : Ext w3 U) (r : Value) (Q : Nat → Prop) (z : Z) (hz : Zi U Q r z) (hzl : z.mag.length ≤ N + 5) => count_c (hS3.ext hU) hsk (L := N + 5) (by omega) (by omega) (⟨Ax, ax, rfl, hnx3.ext hU⟩ : Zi U Y (.agg #[.bool x.neg, .slice Ax x.mag.length ax]) x) hz (by omega) hzl
    have hc2 := fun (U : World) (hU : Ext w3 U) (r : Value) (Q : Nat → Prop) (z : Z) (hz : Zi U Q r z) (hzl : z.mag.length ≤ N + 5) => count_c (hS3.ext hU) hsk (L := N + 5) (by omega) (by omega) hz (⟨Ax, ax, rfl, hnx3.ext hU⟩ : Zi U Y (.agg #[.bool x.neg, .slice Ax x.mag.length ax]) x) hzl (by omega)
    have hhas := fun (U : World) (hU : Ext w3 U) (r : Value) (Q : Nat → Prop) (z : Z) (hz : Zi U Q r z) (hzl : z.mag.length ≤ N + 5) => has_c (hS3.ext hU) hsk hz (by omega)
    have hcmp := fun (U : World) (hU : Ext w3 U) (r : Value) (Q : Nat → Prop) (z : Z) (hz : Zi U Q r z) (hzl : z.mag.length ≤ N + 5) => rcmpz_c hz (⟨Ax, ax, rfl, hnx3.ext hU⟩ : Zi U Y (.agg #[.bool x.neg, .slice Ax x.mag.length ax]) x) (by omega) (by omega)
    have HN1 := Lib.hid hn1; have HL1 := Lib.hid hl1; have HC1 := Lib.hid hc1; have HC2 := Lib.hid hc2; have HHas := Lib.hid hhas; have HCmp := Lib.hid hcmp
    have hnum := fun (k : Int) (h1 : -9223372036854775808 ≤ k) (h2 : k ≤ 9223372036854775807) (V : World) => lnum_c k h1 h2 V
    have HNum := Lib.hid hnum
    clear hn1 hl1 hc1 hc2 hhas hcmp hnum hab d7r d7l q3 q3l hp hnil hsome kl qgl qg hS hS3
    have hx34 := hx4
    have b10 := fun (U : World) (hU : Ext (w4.alloc (.cells #[.bool zd.neg, .slice Ad zd.mag.length ad] 25)) U) => (Box.new w4 25 #[.bool zd.neg, .slice Ad zd.mag.length ad]).ext hU
    have HB10 := Lib.hid b10
    clear b10
    have e6r := e6.rules; have e6l := e6.lt
    have hg64 := e6l
    obtain ⟨zn, hzn⟩ : ∃ zn, zn = cz ((nxtV s x).getD 0) := ⟨_, rfl⟩
    obtain ⟨bn, hbn⟩ : ∃ bn, bn = (nxtV s x).isSome := ⟨_, rfl⟩
    have hn2 := HN1.out
    rw [← hzn, ← hbn] at hn2
    have HZN := Lib.hid hzn; have HBN := Lib.hid hbn; have HZD := Lib.hid hzd
    clear hzn hbn hzd HN1
    go_wp2_with fail
    refine (hn2 _ (hx34.trans (by repeat (first | with_reducible assumption | with_reducible exact Ext.refl _ | with_reducible refine Ext.drewN ?_ _ | with_reducible refine Ext.drew ?_ | with_reducible refine Ext.alloc ?_ _ | (with_reducible refine Ext.setCell ?_ ?_ _; rotate_left; (first | exact Nat.le_refl _ | (dsimp only; omega) | (simp only [wsz]; omega))) | (with_reducible refine Ext.trans ?_ (by with_reducible assumption)))))).mono ?_
    rintro e w5 ⟨_, rfl, ⟨An, an, rfl, nn⟩, hx5⟩
    have hx35 : Ext w3 w5 := hx34.trans (((Ext.refl w4).alloc _).trans hx5)
    have f10 := HB10.out w5 hx5
    have f6 := (e6.alloc (.cells #[.bool zd.neg, .slice Ad zd.mag.length ad] 25)).ext hx5
    have hs45 := hx5.size
    simp only [wsz] at hs45
    clear e6r e6l hn2 HB10
    go_upto_if 50 with fail
    refine wp_named fun W5 hW5 => ?_
    have h6 : Box W5 g6 25 #[.bool x.neg, .slice Ax x.mag.length ax] := by rw [hW5]; exact f6.alloc _
    have h10 : Box W5 w4.heap.size 25 #[.bool zd.neg, .slice Ad zd.mag.length ad] := by rw [hW5]; exact f10.alloc _
    have h11 : Box W5 w5.heap.size 25 #[.bool zn.neg, .slice An zn.mag.length an] := by rw [hW5]; exact Box.new _ _ _
    have hx3W : Ext w3 W5 := by rw [hW5]; exact hx35.alloc _
    have hW5s : W5.heap.size = w5.heap.size + 1 := by rw [hW5]; simp only [wsz]
    have hnnW := nn.ext (w' := W5) (by rw [hW5]; exact (Ext.refl w5).alloc _)
    have hndW := nd.ext (w' := W5) (by rw [hW5]; exact (((Ext.refl w4).alloc _).trans hx5).alloc _)
    have hsz45 : w4.heap.size < w5.heap.size := by omega
    have hsz3 : w3.heap.size ≤ w4.heap.size := hx4.size
    clear hW5 f6 f10 nn nd hx34 hx5 hx35 hs45
    go_cut [] (fun wx => Ext W5 wx)
    case first =>
      have h6r := h6.rules; have h6l := h6.lt
      have h11r := h11.rules; have h11l := h11.lt
      cases hnx : nxtV s x with
      | some yy =>
        have ebn : bn = true := by rw [HBN.out, hnx]; rfl
        have ezn : zn = cz yy := by rw [HZN.out, hnx]; rfl
        have znl : zn.mag.length ≤ N + 5 := by
          rw [ezn, cz_len]
          have := nxt_zl hsk hnx (L := N + 1) (by omega) (Nat.le_refl _) (by omega)
          omega
        obtain ⟨s1, s2, _⟩ := nxt_some hsk hnx
        have eznv : zn.v = yy := by rw [ezn, cz_v]
        have hcnt := fun (U : World) (hU : Ext w3 U) (r : Value) (Q : Nat → Prop) (hz : Zi U Q r zn) => HC1.out U hU r Q zn hz znl
        rw [eznv, finds_up hsk hnx] at hcnt
        have hh := fun (U : World) (hU : Ext w3 U) (r : Value) (Q : Nat → Prop) (hz : Zi U Q r zn) => HHas.out U hU r Q zn hz znl
        rw [eznv, s2] at hh
        have hm := fun (U : World) (hU : Ext w3 U) (r : Value) (Q : Nat → Prop) (hz : Zi U Q r zn) => HCmp.out U hU r Q zn hz znl
        rw [eznv] at hm
        obtain ⟨cm, hcm⟩ : ∃ cm, cm = cmpI yy x.v := ⟨_, rfl⟩
        rw [← hcm] at hm
        have cm0 : decide (cm < 0) = false := decide_eq_false (by rw [hcm, cmpI_neg]; omega)
        obtain ⟨z1, hz1⟩ : ∃ z1, z1 = cz 1 := ⟨_, rfl⟩
        have hnu := HNum.out 1 (by omega) (by omega)
        rw [← hz1] at hnu hcnt
        subst ebn
        have HCt := Lib.hid hcnt; have HH := Lib.hid hh; have HM := Lib.hid hm; have HNu := Lib.hid hnu
        clear hcnt hh hm hnu hz1 hcm ezn eznv s1 s2 hnx znl
        go_wp2_with fail
        refine (HCt.out _ (hx3W.trans (by repeat (first | with_reducible assumption | with_reducible exact Ext.refl _ | with_reducible refine Ext.drewN ?_ _ | with_reducible refine Ext.drew ?_ | with_reducible refine Ext.alloc ?_ _ | (with_reducible refine Ext.setCell ?_ ?_ _; rotate_left; (first | exact Nat.le_refl _ | (dsimp only; omega) | (simp only [wsz]; omega))) | (with_reducible refine Ext.trans ?_ (by with_reducible assumption))))) (.agg #[.bool zn.neg, .slice An zn.mag.length an]) _ ⟨An, an, rfl, hnnW.ext (by repeat (first | with_reducible assumption | with_reducible exact Ext.refl _ | with_reducible refine Ext.drewN ?_ _ | with_reducible refine Ext.drew ?_ | with_reducible refine Ext.alloc ?_ _ | (with_reducible refine Ext.setCell ?_ ?_ _; rotate_left; (first | exact Nat.le_refl _ | (dsimp only; omega) | (simp only [wsz]; omega))) | (with_reducible refine Ext.trans ?_ (by with_reducible assumption))))⟩).mono ?_
        rintro e w6 ⟨_, rfl, ⟨A1, a1, rfl, n1⟩, hx6⟩
        have hW6 : Ext W5 w6 := (by repeat (first | with_reducible assumption | with_reducible exact Ext.refl _ | with_reducible refine Ext.drewN ?_ _ | with_reducible refine Ext.drew ?_ | with_reducible refine Ext.alloc ?_ _ | (with_reducible refine Ext.setCell ?_ ?_ _; rotate_left; (first | exact Nat.le_refl _ | (dsimp only; omega) | (simp only [wsz]; omega))) | (with_reducible refine Ext.trans ?_ (by with_reducible assumption))))
        have i6 := h6.ext hW6; have i11 := h11.ext hW6
        clear h6r h11r h6l h11l
        go_upto_region 10 with fail
        refine wp_named fun W6 hW6e => ?_
        have j6 : Box W6 g6 25 #[.bool x.neg, .slice Ax x.mag.length ax] := by rw [hW6e]; exact i6.alloc _
        have j11 : Box W6 w5.heap.size 25 #[.bool zn.neg, .slice An zn.mag.length an] := by rw [hW6e]; exact i11.alloc _
        have j13 : Box W6 w6.heap.size 25 #[.bool z1.neg, .slice A1 z1.mag.length a1] := by rw [hW6e]; exact Box.new _ _ _
        have hWW : Ext W5 W6 := by rw [hW6e]; exact hW6.alloc _
        have n1W := n1.ext (w' := W6) (by rw [hW6e]; exact (Ext.refl w6).alloc _)
        clear hW6e i6 i11 n1
        have j11r := j11.rules; have j11l := j11.lt
        have j6r := j6.rules; have j6l := j6.lt
        have j13r := j13.rules; have j13l := j13.lt
        have HWW := Lib.hid hWW
        clear hWW hW6 hx6
        refine wp_region_seq 20 [(0, true), (1, true), (2, false), (3, true), (4, true), (5, true), (6, true), (7, false), (8, true), (9, true), (10, true), (11, true), (12, true), (13, true), (14, true), (15, true), (16, false), (17, false), (18, true), (19, true)] rfl (by kernel_rfl) (by intro _ _ d _ _ h; cases d <;> exact h) ?_
        (repeat (first | (refine sq_take (v := ?_) rfl rfl ?_ ?_; rotate_left; (intro w' hx'; have hc' := hx'.cells.1; (try simp only [wcd] at hc'); go_simp; (first | done | with_reducible rfl)); (try simp only [Act.put, List.setIfInBounds_toArray, List.set_cons_zero, List.set_cons_succ])) | (refine sq_skip rfl rfl ?_; (try simp only [Act.put, List.setIfInBounds_toArray, List.set_cons_zero, List.set_cons_succ])) | (refine sq_noloud rfl rfl ?_; (try simp only [Act.put, List.setIfInBounds_toArray, List.set_cons_zero, List.set_cons_succ])) | (refine sq_takeg (v := ?_) rfl rfl ?_ ?_; rotate_left; (intro w' hx'; have hc' := hx'.cells.1; (try simp only [wcd] at hc'); go_simp; (first | done | with_reducible rfl)); (try simp only [Act.put, List.setIfInBounds_toArray, List.set_cons_zero, List.set_cons_succ]))))
        (refine sq_loudg rfl rfl fun K hK => ?_; go_simp)
        refine (HH.out _ ((hx3W.trans HWW.out).trans (show Ext W6 W6.drew from (Ext.refl W6).drew)) (.agg #[.bool zn.neg, .slice An zn.mag.length an]) _ ⟨An, an, rfl, hnnW.ext (HWW.out.trans (Ext.refl W6).drew)⟩).mono ?_
        rintro e w7 ⟨rfl, hx7⟩
        have hy7 : Ext W6 w7 := (by repeat (first | with_reducible assumption | with_reducible exact Ext.refl _ | with_reducible refine Ext.drewN ?_ _ | with_reducible refine Ext.drew ?_ | with_reducible refine Ext.alloc ?_ _ | (with_reducible refine Ext.setCell ?_ ?_ _; rotate_left; (first | exact Nat.le_refl _ | (dsimp only; omega) | (simp only [wsz]; omega))) | (with_reducible refine Ext.trans ?_ (by with_reducible assumption))))
        have k6 := j6.ext hy7; have k11 := j11.ext hy7; have k13 := j13.ext hy7
        have k6r := k6.rules; have k6l := k6.lt
        have k11r := k11.rules; have k11l := k11.lt
        clear j11r j6r j13r
        (refine hK _ _ (by repeat (first | with_reducible assumption | with_reducible exact Ext.refl _ | with_reducible refine Ext.drewN ?_ _ | with_reducible refine Ext.drew ?_ | with_reducible refine Ext.alloc ?_ _ | (with_reducible refine Ext.setCell ?_ ?_ _; rotate_left; (first | exact Nat.le_refl _ | (dsimp only; omega) | (simp only [wsz]; omega))) | (with_reducible refine Ext.trans ?_ (by with_reducible assumption)))) ?_; clear hK K; (try simp only [Act.put, List.setIfInBounds_toArray, List.set_cons_zero, List.set_cons_succ]))
        (repeat (first | (refine sq_take (v := ?_) rfl rfl ?_ ?_; rotate_left; (intro w' hx'; have hc' := hx'.cells.1; (try simp only [wcd] at hc'); go_simp; (first | done | with_reducible rfl)); (try simp only [Act.put, List.setIfInBounds_toArray, List.set_cons_zero, List.set_cons_succ])) | (refine sq_skip rfl rfl ?_; (try simp only [Act.put, List.setIfInBounds_toArray, List.set_cons_zero, List.set_cons_succ])) | (refine sq_noloud rfl rfl ?_; (try simp only [Act.put, List.setIfInBounds_toArray, List.set_cons_zero, List.set_cons_succ])) | (refine sq_takeg (v := ?_) rfl rfl ?_ ?_; rotate_left; (intro w' hx'; have hc' := hx'.cells.1; (try simp only [wcd] at hc'); go_simp; (first | done | with_reducible rfl)); (try simp only [Act.put, List.setIfInBounds_toArray, List.set_cons_zero, List.set_cons_succ]))))
        (refine sq_loudg rfl rfl fun K hK => ?_; go_simp)
        refine (HM.out _ ((hx3W.trans HWW.out).trans hy7) (.agg #[.bool zn.neg, .slice An zn.mag.length an]) _ ⟨An, an, rfl, hnnW.ext (HWW.out.trans hy7)⟩).mono ?_
        rintro e w8 ⟨rfl, hx8⟩
        have k138 := k13.ext hx8
        have k13r := k138.rules; have k13l := k138.lt
        have hy8 := hy7.trans hx8
        clear k6r k11r
        (refine hK _ _ (by repeat (first | with_reducible assumption | with_reducible exact Ext.refl _ | with_reducible refine Ext.drewN ?_ _ | with_reducible refine Ext.drew ?_ | with_reducible refine Ext.alloc ?_ _ | (with_reducible refine Ext.setCell ?_ ?_ _; rotate_left; (first | exact Nat.le_refl _ | (dsimp only; omega) | (simp only [wsz]; omega))) | (with_reducible refine Ext.trans ?_ (by with_reducible assumption)))) ?_; clear hK K; (try simp only [Act.put, List.setIfInBounds_toArray, List.set_cons_zero, List.set_cons_succ]))
        (repeat (first | (refine sq_take (v := ?_) rfl rfl ?_ ?_; rotate_left; (intro w' hx'; have hc' := hx'.cells.1; (try simp only [wcd] at hc'); go_simp; (first | done | with_reducible rfl)); (try simp only [Act.put, List.setIfInBounds_toArray, List.set_cons_zero, List.set_cons_succ])) | (refine sq_skip rfl rfl ?_; (try simp only [Act.put, List.setIfInBounds_toArray, List.set_cons_zero, List.set_cons_succ])) | (refine sq_noloud rfl rfl ?_; (try simp only [Act.put, List.setIfInBounds_toArray, List.set_cons_zero, List.set_cons_succ])) | (refine sq_takeg (v := ?_) rfl rfl ?_ ?_; rotate_left; (intro w' hx'; have hc' := hx'.cells.1; (try simp only [wcd] at hc'); go_simp; (first | done | with_reducible rfl)); (try simp only [Act.put, List.setIfInBounds_toArray, List.set_cons_zero, List.set_cons_succ]))))
        (refine sq_loudg rfl rfl fun K hK => ?_; go_simp)
        refine (HNu.out _).mono ?_
        rintro e w9 ⟨r9, rfl, hr9, hx9⟩
        have hy9 := hy8.trans hx9
        (refine hK _ _ (by repeat (first | with_reducible assumption | with_reducible exact Ext.refl _ | with_reducible refine Ext.drewN ?_ _ | with_reducible refine Ext.drew ?_ | with_reducible refine Ext.alloc ?_ _ | (with_reducible refine Ext.setCell ?_ ?_ _; rotate_left; (first | exact Nat.le_refl _ | (dsimp only; omega) | (simp only [wsz]; omega))) | (with_reducible refine Ext.trans ?_ (by with_reducible assumption)))) ?_; clear hK K; (try simp only [Act.put, List.setIfInBounds_toArray, List.set_cons_zero, List.set_cons_succ]))
        (repeat (first | (refine sq_take (v := ?_) rfl rfl ?_ ?_; rotate_left; (intro w' hx'; have hc' := hx'.cells.1; (try simp only [wcd] at hc'); go_simp; (first | done | with_reducible rfl)); (try simp only [Act.put, List.setIfInBounds_toArray, List.set_cons_zero, List.set_cons_succ])) | (refine sq_skip rfl rfl ?_; (try simp only [Act.put, List.setIfInBounds_toArray, List.set_cons_zero, List.set_cons_succ])) | (refine sq_noloud rfl rfl ?_; (try simp only [Act.put, List.setIfInBounds_toArray, List.set_cons_zero, List.set_cons_succ])) | (refine sq_takeg (v := ?_) rfl rfl ?_ ?_; rotate_left; (intro w' hx'; have hc' := hx'.cells.1; (try simp only [wcd] at hc'); go_simp; (first | done | with_reducible rfl)); (try simp only [Act.put, List.setIfInBounds_toArray, List.set_cons_zero, List.set_cons_succ]))))
        (refine sq_loudg rfl rfl fun K hK => ?_; go_simp)
        refine (lints_c (z := z1) (⟨A1, a1, rfl, n1W.ext hy9⟩ : Zi w9 _ (.agg #[.bool z1.neg, .slice A1 z1.mag.length a1]) z1) hr9).mono ?_
        rintro e w10 ⟨rfl, hx10⟩
        have hy10 := hy9.trans hx10
        (refine hK _ _ (by repeat (first | with_reducible assumption | with_reducible exact Ext.refl _ | with_reducible refine Ext.drewN ?_ _ | with_reducible refine Ext.drew ?_ | with_reducible refine Ext.alloc ?_ _ | (with_reducible refine Ext.setCell ?_ ?_ _; rotate_left; (first | exact Nat.le_refl _ | (dsimp only; omega) | (simp only [wsz]; omega))) | (with_reducible refine Ext.trans ?_ (by with_reducible assumption)))) ?_; clear hK K; (try simp only [Act.put, List.setIfInBounds_toArray, List.set_cons_zero, List.set_cons_succ]))
        (repeat (first | (refine sq_take (v := ?_) rfl rfl ?_ ?_; rotate_left; (intro w' hx'; have hc' := hx'.cells.1; (try simp only [wcd] at hc'); go_simp; (first | done | with_reducible rfl)); (try simp only [Act.put, List.setIfInBounds_toArray, List.set_cons_zero, List.set_cons_succ])) | (refine sq_skip rfl rfl ?_; (try simp only [Act.put, List.setIfInBounds_toArray, List.set_cons_zero, List.set_cons_succ])) | (refine sq_noloud rfl rfl ?_; (try simp only [Act.put, List.setIfInBounds_toArray, List.set_cons_zero, List.set_cons_succ])) | (refine sq_takeg (v := ?_) rfl rfl ?_ ?_; rotate_left; (intro w' hx'; have hc' := hx'.cells.1; (try simp only [wcd] at hc'); go_simp; (first | done | with_reducible rfl)); (try simp only [Act.put, List.setIfInBounds_toArray, List.set_cons_zero, List.set_cons_succ]))))
        refine sq_done ?_
        go_wp2_with fail
        go_meet
        exact HWW.out.trans hy10
      | none =>
        have ebn : bn = false := by rw [HBN.out, hnx]; rfl
        have hcnt := fun (U : World) (hU : Ext w3 U) (r : Value) (Q : Nat → Prop) (z : Z) (hz : Zi U Q r z) (hzl : z.mag.length ≤ N + 5) => HC1.out U hU r Q z hz hzl
        simp only [finds_up0 hsk hnx] at hcnt
        obtain ⟨z0, hz0⟩ : ∃ z0, z0 = cz 0 := ⟨_, rfl⟩
        have hnu := HNum.out 0 (by omega) (by omega)
        rw [← hz0] at hnu
        simp only [← hz0] at hcnt
        have hadd := fun (U : World) (hU : Ext W5 U) => raddz_c (w := U) (⟨Ax, ax, rfl, hnx3.ext (hx3W.trans hU)⟩ : Zi U Y (.agg #[.bool x.neg, .slice Ax x.mag.length ax]) x) (⟨Ad, ad, rfl, hndW.ext hU⟩ : Zi U _ (.agg #[.bool zd.neg, .slice Ad zd.mag.length ad]) zd) (by omega) (by omega)
        obtain ⟨zs, hzs⟩ : ∃ zs, zs = cz (x.v + zd.v) := ⟨_, rfl⟩
        simp only [← hzs] at hadd
        have zsl : zs.mag.length ≤ N + 5 := by
          rw [hzs, cz_len]
          have h2 : zl zd.v ≤ N := Nat.le_trans (zl_of hndW.lt) zdl
          have := zl_add (k := N) zx h2
          omega
        subst ebn
        have hb0 : (z0.neg, z0.mag) = (false, []) := by rw [hz0]; rfl
        have HAdd := Lib.hid hadd; have HCt := Lib.hid hcnt; have HNu := Lib.hid hnu
        have h10r := h10.rules; have h10l := h10.lt
        clear hadd hcnt hnu hnx hz0 hzs h11r h11l hb0
        go_wp2_with fail
        refine wp_region_free [(0, 79, []), (1, 80, []), (2, 81, []), (3, 82, []), (4, 83, [(2, 81), (3, 82)]), (5, 84, [(0, 79), (1, 80), (4, 83)]), (6, 78, [(5, 84)]), (7, 85, [(6, 78)]), (8, 86, [(6, 78)]), (9, 15, [])] [10, 11] [79, 80, 81, 82, 83, 84, 78, 85, 86, 15] [9] [8] [phiEq (.pointer (some ⟨g, 0, none⟩)), phiEq (.agg #[.bool x.neg, .slice Ax x.mag.length ax]), phiEq (.agg #[.bool x.neg, .slice Ax x.mag.length ax]), phiEq (.agg #[.bool zd.neg, .slice Ad zd.mag.length ad]), phiZ (fun _ => True) zs, phiC z0, phiC z0, phiZ (fun _ => True) z0, phiEq (.int .i64 0), phiBox W5.heap.size 25 #[.bool false, .slice none 0 0]] rfl (by kernel_rfl) (by intro _ _ d _ _ h; cases d <;> exact h) (by kernel_rfl) (by kernel_rfl) ?_ ?_
        · have q0 : W5.cell? ⟨g6, 0, none⟩ = some (.bool x.neg) := by rw [h6.cell]; rfl
          have q1 : W5.cell? ⟨g6, 1, none⟩ = some (.slice Ax x.mag.length ax) := by rw [h6.cell]; rfl
          have q2 : W5.cell? ⟨w4.heap.size, 0, none⟩ = some (.bool zd.neg) := by rw [h10.cell]; rfl
          have q3 : W5.cell? ⟨w4.heap.size, 1, none⟩ = some (.slice Ad zd.mag.length ad) := by rw [h10.cell]; rfl
          (refine ps_eq rfl rfl rfl rfl rfl rfl ?_ ?_; focus (intro f w1 hx hd; have hc' := hx.cells.1; (try simp only [wcd] at hc'); (dsimp only [PhiDeps, phiAt, phiEq, phiZ, phiAny, phiBox] at hd); (simp only [fillA]; (try simp only [Act.put, List.setIfInBounds_toArray, List.set_cons_zero, List.set_cons_succ])); (try simp only [hd]); go_simp; (first | done | with_reducible rfl)))
          (refine ps_eq rfl rfl rfl rfl rfl rfl ?_ ?_; focus (intro f w1 hx hd; have hc' := hx.cells.1; (try simp only [wcd] at hc'); have z0 := (hc' _ 0 h6l).trans q0; have z1 := (hc' _ 1 h6l).trans q1; clear hc'; (dsimp only [PhiDeps, phiAt, phiEq, phiZ, phiAny, phiBox] at hd); (simp only [fillA]; (try simp only [Act.put, List.setIfInBounds_toArray, List.set_cons_zero, List.set_cons_succ])); (try simp only [hd]); go_simp; (first | done | with_reducible rfl)))
          (refine ps_eq rfl rfl rfl rfl rfl rfl ?_ ?_; focus (intro f w1 hx hd; have hc' := hx.cells.1; (try simp only [wcd] at hc'); have z0 := (hc' _ 0 h6l).trans q0; have z1 := (hc' _ 1 h6l).trans q1; clear hc'; (dsimp only [PhiDeps, phiAt, phiEq, phiZ, phiAny, phiBox] at hd); (simp only [fillA]; (try simp only [Act.put, List.setIfInBounds_toArray, List.set_cons_zero, List.set_cons_succ])); (try simp only [hd]); go_simp; (first | done | with_reducible rfl)))
          (refine ps_eq rfl rfl rfl rfl rfl rfl ?_ ?_; focus (intro f w1 hx hd; have hc' := hx.cells.1; (try simp only [wcd] at hc'); have z0 := (hc' _ 0 h10l).trans q2; have z1 := (hc' _ 1 h10l).trans q3; clear hc'; (dsimp only [PhiDeps, phiAt, phiEq, phiZ, phiAny, phiBox] at hd); (simp only [fillA]; (try simp only [Act.put, List.setIfInBounds_toArray, List.set_cons_zero, List.set_cons_succ])); (try simp only [hd]); go_simp; (first | done | with_reducible rfl)))
          (refine ps_loud rfl rfl rfl rfl rfl (fun f w1 hx hd K hK => ?_) ?_)
          · (have hc' := hx.cells.1; (try simp only [wcd] at hc'); (dsimp only [PhiDeps, phiAt, phiEq, phiZ, phiAny, phiBox] at hd); simp only [fillA, Act.put, List.setIfInBounds_toArray, List.set_cons_zero, List.set_cons_succ] at hK; (simp only [fillA]; (try simp only [Act.put, List.setIfInBounds_toArray, List.set_cons_zero, List.set_cons_succ])); (try simp only [hd] at hK ⊢); go_simp)
            refine (HAdd.out _ (by repeat (first | with_reducible assumption | with_reducible exact Ext.refl _ | with_reducible refine Ext.drewN ?_ _ | with_reducible refine Ext.drew ?_ | with_reducible refine Ext.alloc ?_ _ | (with_reducible refine Ext.setCell ?_ ?_ _; rotate_left; (first | exact Nat.le_refl _ | (dsimp only; omega) | (simp only [wsz]; omega))) | (with_reducible refine Ext.trans ?_ (by with_reducible assumption))))).mono ?_
            rintro e w6 ⟨r, rfl, hr, hx6⟩
            (refine hK _ _ (by repeat (first | with_reducible assumption | with_reducible exact Ext.refl _ | with_reducible refine Ext.drewN ?_ _ | with_reducible refine Ext.drew ?_ | with_reducible refine Ext.alloc ?_ _ | (with_reducible refine Ext.setCell ?_ ?_ _; rotate_left; (first | exact Nat.le_refl _ | (dsimp only; omega) | (simp only [wsz]; omega))) | (with_reducible refine Ext.trans ?_ (by with_reducible assumption)))) ?_; dsimp only [phiAt, phiEq, phiZ, phiAny, phiBox])
            exact hr.widen fun _ _ _ => trivial
          (refine ps_loud rfl rfl rfl rfl rfl (fun f w1 hx hd K hK => ?_) ?_)
          · (have hc' := hx.cells.1; (try simp only [wcd] at hc'); (dsimp only [PhiDeps, phiAt, phiEq, phiZ, phiAny, phiBox] at hd); simp only [fillA, Act.put, List.setIfInBounds_toArray, List.set_cons_zero, List.set_cons_succ] at hK; (simp only [fillA]; (try simp only [Act.put, List.setIfInBounds_toArray, List.set_cons_zero, List.set_cons_succ])); (try simp only [hd] at hK ⊢); go_simp)
            refine (HCt.out _ (hx3W.trans (by repeat (first | with_reducible assumption | with_reducible exact Ext.refl _ | with_reducible refine Ext.drewN ?_ _ | with_reducible refine Ext.drew ?_ | with_reducible refine Ext.alloc ?_ _ | (with_reducible refine Ext.setCell ?_ ?_ _; rotate_left; (first | exact Nat.le_refl _ | (dsimp only; omega) | (simp only [wsz]; omega))) | (with_reducible refine Ext.trans ?_ (by with_reducible assumption))))) _ _ zs hd.2.2.1 zsl).mono ?_
            rintro e w6 ⟨r, rfl, hr, hx6⟩
            (refine hK _ _ (by repeat (first | with_reducible assumption | with_reducible exact Ext.refl _ | with_reducible refine Ext.drewN ?_ _ | with_reducible refine Ext.drew ?_ | with_reducible refine Ext.alloc ?_ _ | (with_reducible refine Ext.setCell ?_ ?_ _; rotate_left; (first | exact Nat.le_refl _ | (dsimp only; omega) | (simp only [wsz]; omega))) | (with_reducible refine Ext.trans ?_ (by with_reducible assumption)))) ?_; dsimp only [phiAt, phiEq, phiZ, phiAny, phiBox])
            exact ⟨r, rfl, hr.widen fun _ _ _ => trivial⟩
          refine ps_take rfl rfl rfl rfl rfl ?_ ?_
          · intro f w1 hx hd
            (dsimp only [PhiDeps, phiAt, phiEq, phiZ, phiAny, phiBox] at hd)
            obtain ⟨⟨r, e, h1⟩, -⟩ := hd
            refine ⟨_, ?_, r, e, h1⟩
            (simp only [fillA]; (try simp only [Act.put, List.setIfInBounds_toArray, List.set_cons_zero, List.set_cons_succ]))
            go_simp
          refine ps_take rfl rfl rfl rfl rfl ?_ ?_
          · intro f w1 hx hd
            (dsimp only [PhiDeps, phiAt, phiEq, phiZ, phiAny, phiBox] at hd)
            obtain ⟨⟨r, e, h1⟩, -⟩ := hd
            refine ⟨r, ?_, h1⟩
            (simp only [fillA]; (try simp only [Act.put, List.setIfInBounds_toArray, List.set_cons_zero, List.set_cons_succ]))
            simp only [e]
            go_simp
          refine ps_peq rfl rfl rfl rfl rfl ?_ ?_
          · intro f w1 hx hd w'
            (dsimp only [PhiDeps, phiAt, phiEq, phiZ, phiAny, phiBox] at hd)
            obtain ⟨⟨r, e, h1⟩, -⟩ := hd
            (simp only [fillA]; (try simp only [Act.put, List.setIfInBounds_toArray, List.set_cons_zero, List.set_cons_succ]))
            simp only [e]
            go_simp
          (refine ps_alloc rfl rfl rfl rfl rfl ?_ (by repeat (first | exact ab_nil | refine ab_cons rfl ?_)) ?_ ?_; (focus (first | omega | (simp only [wsz]; done) | (simp only [wsz]; omega))); (focus (intro f w1; (simp only [fillA]; (try simp only [Act.put, List.setIfInBounds_toArray, List.set_cons_zero, List.set_cons_succ])); go_simp; try (with_reducible rfl))))
          exact ps_nil
        · intro f w2 hx2 hall hne2
          (dsimp only [PhiAll, phiAt, phiEq, phiZ, phiAny, phiBox] at hall)
          obtain ⟨f79, f80, f81, f82, -, -, -, ⟨A0, a0, f85, n85⟩, f86, ⟨g15, f15, l15, x15⟩, -⟩ := hall
          clear hne2
          (simp only [fillA]; (try simp only [Act.put, List.setIfInBounds_toArray, List.set_cons_zero, List.set_cons_succ]))
          simp only [f79, f80, f81, f82, f85, f86, f15]
          have x15r := x15.rules; have x15l := x15.lt
          have hx2' : Ext W5 w2 := (Ext.refl W5).drew.trans hx2
          clear h6r h10r
          (refine sh_late rfl rfl fun K hK => ?_; go_simp; refine hK _ _ ?_; clear hK K)
          (refine sh_late rfl rfl fun K hK => ?_; go_simp; refine hK _ _ ?_; clear hK K)
          refine sh_end ?_
          refine x_named fun T hT => ?_
          have u15 : Box T g15 25 #[.bool z0.neg, .slice A0 z0.mag.length a0] := by rw [hT]; exact (x15.set_ 0 _).set_ 1 _
          have hxT : Ext W5 T := by rw [hT]; exact (hx2'.setCell (by simp only; omega) _).setCell (by simp only; omega) _
          have n0T : Nl T (fun _ => True) A0 a0 z0.mag := by
            rw [hT]
            refine (Nl.keep (n85.off x15 (by simp)) ?_).widen fun _ _ _ => trivial
            exact (((Kp.refl w2).setCell (fun h => h.2 rfl) _).setCell (fun h => h.2 rfl) _)
          clear hT x15r x15l x15 hx2 hx2' n85
          have u15r := u15.rules; have u15l := u15.lt
          go_upto_region 13 with fail
          refine wp_region_seq 8 [(0, true), (1, true), (2, true), (3, true), (4, false), (5, false), (6, true), (7, true)] rfl (by kernel_rfl) (by intro _ _ d _ _ h; cases d <;> exact h) ?_
          (repeat (first | (refine sq_take (v := ?_) rfl rfl ?_ ?_; rotate_left; (intro w' hx'; have hc' := hx'.cells.1; (try simp only [wcd] at hc'); go_simp; (first | done | with_reducible rfl)); (try simp only [Act.put, List.setIfInBounds_toArray, List.set_cons_zero, List.set_cons_succ])) | (refine sq_skip rfl rfl ?_; (try simp only [Act.put, List.setIfInBounds_toArray, List.set_cons_zero, List.set_cons_succ])) | (refine sq_noloud rfl rfl ?_; (try simp only [Act.put, List.setIfInBounds_toArray, List.set_cons_zero, List.set_cons_succ])) | (refine sq_takeg (v := ?_) rfl rfl ?_ ?_; rotate_left; (intro w' hx'; have hc' := hx'.cells.1; (try simp only [wcd] at hc'); go_simp; (first | done | with_reducible rfl)); (try simp only [Act.put, List.setIfInBounds_toArray, List.set_cons_zero, List.set_cons_succ]))))
          (refine sq_loudg rfl rfl fun K hK => ?_; go_simp)
          refine (HNu.out _).mono ?_
          rintro e w6 ⟨r6, rfl, hr6, hx6⟩
          have hT6 : Ext T w6 := (by repeat (first | with_reducible assumption | with_reducible exact Ext.refl _ | with_reducible refine Ext.drewN ?_ _ | with_reducible refine Ext.drew ?_ | with_reducible refine Ext.alloc ?_ _ | (with_reducible refine Ext.setCell ?_ ?_ _; rotate_left; (first | exact Nat.le_refl _ | (dsimp only; omega) | (simp only [wsz]; omega))) | (with_reducible refine Ext.trans ?_ (by with_reducible assumption))))
          (refine hK _ _ (by repeat (first | with_reducible assumption | with_reducible exact Ext.refl _ | with_reducible refine Ext.drewN ?_ _ | with_reducible refine Ext.drew ?_ | with_reducible refine Ext.alloc ?_ _ | (with_reducible refine Ext.setCell ?_ ?_ _; rotate_left; (first | exact Nat.le_refl _ | (dsimp only; omega) | (simp only [wsz]; omega))) | (with_reducible refine Ext.trans ?_ (by with_reducible assumption)))) ?_; clear hK K; (try simp only [Act.put, List.setIfInBounds_toArray, List.set_cons_zero, List.set_cons_succ]))
          (repeat (first | (refine sq_take (v := ?_) rfl rfl ?_ ?_; rotate_left; (intro w' hx'; have hc' := hx'.cells.1; (try simp only [wcd] at hc'); go_simp; (first | done | with_reducible rfl)); (try simp only [Act.put, List.setIfInBounds_toArray, List.set_cons_zero, List.set_cons_succ])) | (refine sq_skip rfl rfl ?_; (try simp only [Act.put, List.setIfInBounds_toArray, List.set_cons_zero, List.set_cons_succ])) | (refine sq_noloud rfl rfl ?_; (try simp only [Act.put, List.setIfInBounds_toArray, List.set_cons_zero, List.set_cons_succ])) | (refine sq_takeg (v := ?_) rfl rfl ?_ ?_; rotate_left; (intro w' hx'; have hc' := hx'.cells.1; (try simp only [wcd] at hc'); go_simp; (first | done | with_reducible rfl)); (try simp only [Act.put, List.setIfInBounds_toArray, List.set_cons_zero, List.set_cons_succ]))))
          (refine sq_loudg rfl rfl fun K hK => ?_; go_simp)
          refine (lints_c (z := z0) (⟨A0, a0, rfl, n0T.ext hT6⟩ : Zi w6 _ (.agg #[.bool z0.neg, .slice A0 z0.mag.length a0]) z0) hr6).mono ?_
          rintro e w7 ⟨rfl, hx7⟩
          have hT7 := hT6.trans hx7
          (refine hK _ _ (by repeat (first | with_reducible assumption | with_reducible exact Ext.refl _ | with_reducible refine Ext.drewN ?_ _ | with_reducible refine Ext.drew ?_ | with_reducible refine Ext.alloc ?_ _ | (with_reducible refine Ext.setCell ?_ ?_ _; rotate_left; (first | exact Nat.le_refl _ | (dsimp only; omega) | (simp only [wsz]; omega))) | (with_reducible refine Ext.trans ?_ (by with_reducible assumption)))) ?_; clear hK K; (try simp only [Act.put, List.setIfInBounds_toArray, List.set_cons_zero, List.set_cons_succ]))
          (repeat (first | (refine sq_take (v := ?_) rfl rfl ?_ ?_; rotate_left; (intro w' hx'; have hc' := hx'.cells.1; (try simp only [wcd] at hc'); go_simp; (first | done | with_reducible rfl)); (try simp only [Act.put, List.setIfInBounds_toArray, List.set_cons_zero, List.set_cons_succ])) | (refine sq_skip rfl rfl ?_; (try simp only [Act.put, List.setIfInBounds_toArray, List.set_cons_zero, List.set_cons_succ])) | (refine sq_noloud rfl rfl ?_; (try simp only [Act.put, List.setIfInBounds_toArray, List.set_cons_zero, List.set_cons_succ])) | (refine sq_takeg (v := ?_) rfl rfl ?_ ?_; rotate_left; (intro w' hx'; have hc' := hx'.cells.1; (try simp only [wcd] at hc'); go_simp; (first | done | with_reducible rfl)); (try simp only [Act.put, List.setIfInBounds_toArray, List.set_cons_zero, List.set_cons_succ]))))
          refine sq_done ?_
          go_wp2_with fail
          go_meet
          exact hxT.trans hT7
    case rest =>
      have hxc := hcut
      have k6 := h6.ext hxc; have k10 := h10.ext hxc; have k11 := h11.ext hxc
      have hxw := hx3W.trans hxc
      have k6r := k6.rules; have k6l := k6.lt
      have k11r := k11.rules; have k11l := k11.lt
      obtain ⟨zl', hzl⟩ : ∃ zn, zn = cz ((lstV s x).getD 0) := ⟨_, rfl⟩
      obtain ⟨bl, hbl⟩ : ∃ bn, bn = (lstV s x).isSome := ⟨_, rfl⟩
      have hl2 := HL1.out
      rw [← hzl, ← hbl] at hl2
      have HZL := Lib.hid hzl; have HBL := Lib.hid hbl
      clear hzl hbl HL1 hcut HZN HBN
      go_wp2_with fail
      refine (hl2 _ (hxw.trans (by repeat (first | with_reducible assumption | with_reducible exact Ext.refl _ | with_reducible refine Ext.drewN ?_ _ | with_reducible refine Ext.drew ?_ | with_reducible refine Ext.alloc ?_ _ | (with_reducible refine Ext.setCell ?_ ?_ _; rotate_left; (first | exact Nat.le_refl _ | (dsimp only; omega) | (simp only [wsz]; omega))) | (with_reducible refine Ext.trans ?_ (by with_reducible assumption)))))).mono ?_
      rintro e w6 ⟨_, rfl, ⟨Al, al, rfl, nl⟩, hx6⟩
      have hxc6 : Ext wc w6 := (by repeat (first | with_reducible assumption | with_reducible exact Ext.refl _ | with_reducible refine Ext.drewN ?_ _ | with_reducible refine Ext.drew ?_ | with_reducible refine Ext.alloc ?_ _ | (with_reducible refine Ext.setCell ?_ ?_ _; rotate_left; (first | exact Nat.le_refl _ | (dsimp only; omega) | (simp only [wsz]; omega))) | (with_reducible refine Ext.trans ?_ (by with_reducible assumption))))
      have m6 := k6.ext hxc6; have m10 := k10.ext hxc6; have m11 := k11.ext hxc6
      have m11r := m11.rules; have m11l := m11.lt
      have hwc := hxc.size
      have hs6 := hxc6.size
      clear k6r k11r k6l k11l hl2
      go_upto_if 101 with fail
      refine wp_named fun W6 hW6 => ?_
      have h6 : Box W6 g6 25 #[.bool x.neg, .slice Ax x.mag.length ax] := by rw [hW6]; exact (m6.far (by simp only; omega) _).far (by simp only; omega) _
      have h10 : Box W6 w4.heap.size 25 #[.bool zd.neg, .slice Ad zd.mag.length ad] := by rw [hW6]; exact (m10.far (by simp only; omega) _).far (by simp only; omega) _
      have h11 : Box W6 w5.heap.size 25 #[.bool zl'.neg, .slice Al zl'.mag.length al] := by rw [hW6]; exact (m11.set_ 0 _).set_ 1 _
      have hx3W : Ext w3 W6 := by rw [hW6]; exact ((hxw.trans hxc6).setCell (by simp only; omega) _).setCell (by simp only; omega) _
      have hnlW : Nl W6 (fun b => b ≠ w5.heap.size) Al al zl'.mag := by
        rw [hW6]
        exact (nl.widen (Y := fun b => b ≠ w5.heap.size) fun b hb _ => by have h1 : wc.heap.size ≤ b := hb; have := hxc.size; omega).keep (((Kp.refl w6).setCell (fun h => h rfl) _).setCell (fun h => h rfl) _)
      have hndW : Nl W6 (fun _ => True) Ad ad zd.mag := by
        rw [hW6]
        exact (((hndW.ext (hxc.trans hxc6)).off m11 (by simp)).keep (((Kp.refl w6).setCell (fun h => h.2 rfl) _).setCell (fun h => h.2 rfl) _)).widen fun _ _ _ => trivial
      clear hW6 m6 m10 m11 m11r m11l nl hx6 hxc6 hxc hxw k6 k10 k11 hwc hs6
      have h6r := h6.rules; have h6l := h6.lt
      have h11r := h11.rules; have h11l := h11.lt
      cases hnx : lstV s x with
      | some yy =>
        have ebn : bl = true := by rw [HBL.out, hnx]; rfl
        have ezn : zl' = cz yy := by rw [HZL.out, hnx]; rfl
        have znl : zl'.mag.length ≤ N + 5 := by
          rw [ezn, cz_len]
          have := lst_zl hsk hnx (L := N + 1) (by omega) (Nat.le_refl _) (by omega)
          omega
        obtain ⟨s1, s2, _⟩ := lst_some hsk hnx
        have eznv : zl'.v = yy := by rw [ezn, cz_v]
        have hcnt := fun (U : World) (hU : Ext w3 U) (r : Value) (Q : Nat → Prop) (hz : Zi U Q r zl') => HC2.out U hU r Q zl' hz znl
        rw [finds_dn hsk hnx eznv] at hcnt
        have hh := fun (U : World) (hU : Ext w3 U) (r : Value) (Q : Nat → Prop) (hz : Zi U Q r zl') => HHas.out U hU r Q zl' hz znl
        rw [eznv, s2] at hh
        have hm := fun (U : World) (hU : Ext w3 U) (r : Value) (Q : Nat → Prop) (hz : Zi U Q r zl') => HCmp.out U hU r Q zl' hz znl
        rw [eznv] at hm
        obtain ⟨cm, hcm⟩ : ∃ cm, cm = cmpI yy x.v := ⟨_, rfl⟩
        rw [← hcm] at hm
        have cm0 : decide (cm ≤ 0) = true := decide_eq_true (by rw [hcm]; have := @cmpI_pos yy x.v; omega)
        obtain ⟨z1, hz1⟩ : ∃ z1, z1 = cz 1 := ⟨_, rfl⟩
        have hnu := HNum.out 1 (by omega) (by omega)
        rw [← hz1] at hnu hcnt
        subst ebn
        have HCt := Lib.hid hcnt; have HH := Lib.hid hh; have HM := Lib.hid hm; have HNu := Lib.hid hnu
        clear hcnt hh hm hnu hz1 hcm ezn eznv s1 s2 hnx znl
        go_wp2_with fail
        refine (HCt.out _ (hx3W.trans (by repeat (first | with_reducible assumption | with_reducible exact Ext.refl _ | with_reducible refine Ext.drewN ?_ _ | with_reducible refine Ext.drew ?_ | with_reducible refine Ext.alloc ?_ _ | (with_reducible refine Ext.setCell ?_ ?_ _; rotate_left; (first | exact Nat.le_refl _ | (dsimp only; omega) | (simp only [wsz]; omega))) | (with_reducible refine Ext.trans ?_ (by with_reducible assumption))))) (.agg #[.bool zl'.neg, .slice Al zl'.mag.length al]) _ ⟨Al, al, rfl, hnlW.ext (by repeat (first | with_reducible assumption | with_reducible exact Ext.refl _ | with_reducible refine Ext.drewN ?_ _ | with_reducible refine Ext.drew ?_ | with_reducible refine Ext.alloc ?_ _ | (with_reducible refine Ext.setCell ?_ ?_ _; rotate_left; (first | exact Nat.le_refl _ | (dsimp only; omega) | (simp only [wsz]; omega))) | (with_reducible refine Ext.trans ?_ (by with_reducible assumption))))⟩).mono ?_
        rintro e v6 ⟨_, rfl, ⟨A1, a1, rfl, n1⟩, hx6⟩
        have hWZ : Ext W6 v6 := (by repeat (first | with_reducible assumption | with_reducible exact Ext.refl _ | with_reducible refine Ext.drewN ?_ _ | with_reducible refine Ext.drew ?_ | with_reducible refine Ext.alloc ?_ _ | (with_reducible refine Ext.setCell ?_ ?_ _; rotate_left; (first | exact Nat.le_refl _ | (dsimp only; omega) | (simp only [wsz]; omega))) | (with_reducible refine Ext.trans ?_ (by with_reducible assumption))))
        have i6 := h6.ext hWZ; have i11 := h11.ext hWZ
        clear h6r h11r h6l h11l
        go_upto_region 18 with fail
        refine wp_named fun WZ hWZe => ?_
        have j6 : Box WZ g6 25 #[.bool x.neg, .slice Ax x.mag.length ax] := by rw [hWZe]; exact i6.alloc _
        have j11 : Box WZ w5.heap.size 25 #[.bool zl'.neg, .slice Al zl'.mag.length al] := by rw [hWZe]; exact i11.alloc _
        have j13 : Box WZ v6.heap.size 25 #[.bool z1.neg, .slice A1 z1.mag.length a1] := by rw [hWZe]; exact Box.new _ _ _
        have hWW : Ext W6 WZ := by rw [hWZe]; exact hWZ.alloc _
        have n1W := n1.ext (w' := WZ) (by rw [hWZe]; exact (Ext.refl v6).alloc _)
        clear hWZe i6 i11 n1
        have j11r := j11.rules; have j11l := j11.lt
        have j6r := j6.rules; have j6l := j6.lt
        have j13r := j13.rules; have j13l := j13.lt
        have HWW := Lib.hid hWW
        clear hWW hWZ hx6
        refine wp_region_seq 18 [(0, true), (1, true), (2, false), (3, true), (4, true), (5, true), (6, false), (7, true), (8, true), (9, true), (10, true), (11, true), (12, true), (13, true), (14, true), (15, false), (16, false), (17, true), (18, false)] rfl (by kernel_rfl) (by intro _ _ d _ _ h; cases d <;> exact h) ?_
        (repeat (first | (refine sq_take (v := ?_) rfl rfl ?_ ?_; rotate_left; (intro w' hx'; have hc' := hx'.cells.1; (try simp only [wcd] at hc'); go_simp; (first | done | with_reducible rfl)); (try simp only [Act.put, List.setIfInBounds_toArray, List.set_cons_zero, List.set_cons_succ])) | (refine sq_skip rfl rfl ?_; (try simp only [Act.put, List.setIfInBounds_toArray, List.set_cons_zero, List.set_cons_succ])) | (refine sq_noloud rfl rfl ?_; (try simp only [Act.put, List.setIfInBounds_toArray, List.set_cons_zero, List.set_cons_succ])) | (refine sq_takeg (v := ?_) rfl rfl ?_ ?_; rotate_left; (intro w' hx'; have hc' := hx'.cells.1; (try simp only [wcd] at hc'); go_simp; (first | done | with_reducible rfl)); (try simp only [Act.put, List.setIfInBounds_toArray, List.set_cons_zero, List.set_cons_succ]))))
        (refine sq_loudg rfl rfl fun K hK => ?_; go_simp)
        refine (HH.out _ ((hx3W.trans HWW.out).trans (show Ext WZ WZ.drew from (Ext.refl WZ).drew)) (.agg #[.bool zl'.neg, .slice Al zl'.mag.length al]) _ ⟨Al, al, rfl, hnlW.ext (HWW.out.trans (Ext.refl WZ).drew)⟩).mono ?_
        rintro e w7 ⟨rfl, hx7⟩
        have hy7 : Ext WZ w7 := (by repeat (first | with_reducible assumption | with_reducible exact Ext.refl _ | with_reducible refine Ext.drewN ?_ _ | with_reducible refine Ext.drew ?_ | with_reducible refine Ext.alloc ?_ _ | (with_reducible refine Ext.setCell ?_ ?_ _; rotate_left; (first | exact Nat.le_refl _ | (dsimp only; omega) | (simp only [wsz]; omega))) | (with_reducible refine Ext.trans ?_ (by with_reducible assumption))))
        have k6 := j6.ext hy7; have k11 := j11.ext hy7; have k13 := j13.ext hy7
        have k6r := k6.rules; have k6l := k6.lt
        have k11r := k11.rules; have k11l := k11.lt
        clear j11r j6r j13r
        (refine hK _ _ (by repeat (first | with_reducible assumption | with_reducible exact Ext.refl _ | with_reducible refine Ext.drewN ?_ _ | with_reducible refine Ext.drew ?_ | with_reducible refine Ext.alloc ?_ _ | (with_reducible refine Ext.setCell ?_ ?_ _; rotate_left; (first | exact Nat.le_refl _ | (dsimp only; omega) | (simp only [wsz]; omega))) | (with_reducible refine Ext.trans ?_ (by with_reducible assumption)))) ?_; clear hK K; (try simp only [Act.put, List.setIfInBounds_toArray, List.set_cons_zero, List.set_cons_succ]))
        (repeat (first | (refine sq_take (v := ?_) rfl rfl ?_ ?_; rotate_left; (intro w' hx'; have hc' := hx'.cells.1; (try simp only [wcd] at hc'); go_simp; (first | done | with_reducible rfl)); (try simp only [Act.put, List.setIfInBounds_toArray, List.set_cons_zero, List.set_cons_succ])) | (refine sq_skip rfl rfl ?_; (try simp only [Act.put, List.setIfInBounds_toArray, List.set_cons_zero, List.set_cons_succ])) | (refine sq_noloud rfl rfl ?_; (try simp only [Act.put, List.setIfInBounds_toArray, List.set_cons_zero, List.set_cons_succ])) | (refine sq_takeg (v := ?_) rfl rfl ?_ ?_; rotate_left; (intro w' hx'; have hc' := hx'.cells.1; (try simp only [wcd] at hc'); go_simp; (first | done | with_reducible rfl)); (try simp only [Act.put, List.setIfInBounds_toArray, List.set_cons_zero, List.set_cons_succ]))))
        (refine sq_loudg rfl rfl fun K hK => ?_; go_simp)
        refine (HM.out _ ((hx3W.trans HWW.out).trans hy7) (.agg #[.bool zl'.neg, .slice Al zl'.mag.length al]) _ ⟨Al, al, rfl, hnlW.ext (HWW.out.trans hy7)⟩).mono ?_
        rintro e w8 ⟨rfl, hx8⟩
        have k138 := k13.ext hx8
        have k13r := k138.rules; have k13l := k138.lt
        have hy8 := hy7.trans hx8
        clear k6r k11r
        (refine hK _ _ (by repeat (first | with_reducible assumption | with_reducible exact Ext.refl _ | with_reducible refine Ext.drewN ?_ _ | with_reducible refine Ext.drew ?_ | with_reducible refine Ext.alloc ?_ _ | (with_reducible refine Ext.setCell ?_ ?_ _; rotate_left; (first | exact Nat.le_refl _ | (dsimp only; omega) | (simp only [wsz]; omega))) | (with_reducible refine Ext.trans ?_ (by with_reducible assumption)))) ?_; clear hK K; (try simp only [Act.put, List.setIfInBounds_toArray, List.set_cons_zero, List.set_cons_succ]))
        (repeat (first | (refine sq_take (v := ?_) rfl rfl ?_ ?_; rotate_left; (intro w' hx'; have hc' := hx'.cells.1; (try simp only [wcd] at hc'); go_simp; (first | done | with_reducible rfl)); (try simp only [Act.put, List.setIfInBounds_toArray, List.set_cons_zero, List.set_cons_succ])) | (refine sq_skip rfl rfl ?_; (try simp only [Act.put, List.setIfInBounds_toArray, List.set_cons_zero, List.set_cons_succ])) | (refine sq_noloud rfl rfl ?_; (try simp only [Act.put, List.setIfInBounds_toArray, List.set_cons_zero, List.set_cons_succ])) | (refine sq_takeg (v := ?_) rfl rfl ?_ ?_; rotate_left; (intro w' hx'; have hc' := hx'.cells.1; (try simp only [wcd] at hc'); go_simp; (first | done | with_reducible rfl)); (try simp only [Act.put, List.setIfInBounds_toArray, List.set_cons_zero, List.set_cons_succ]))))
        (refine sq_loudg rfl rfl fun K hK => ?_; go_simp)
        refine (HNu.out _).mono ?_
        rintro e w9 ⟨r9, rfl, hr9, hx9⟩
        have hy9 := hy8.trans hx9
        (refine hK _ _ (by repeat (first | with_reducible assumption | with_reducible exact Ext.refl _ | with_reducible refine Ext.drewN ?_ _ | with_reducible refine Ext.drew ?_ | with_reducible refine Ext.alloc ?_ _ | (with_reducible refine Ext.setCell ?_ ?_ _; rotate_left; (first | exact Nat.le_refl _ | (dsimp only; omega) | (simp only [wsz]; omega))) | (with_reducible refine Ext.trans ?_ (by with_reducible assumption)))) ?_; clear hK K; (try simp only [Act.put, List.setIfInBounds_toArray, List.set_cons_zero, List.set_cons_succ]))
        (repeat (first | (refine sq_take (v := ?_) rfl rfl ?_ ?_; rotate_left; (intro w' hx'; have hc' := hx'.cells.1; (try simp only [wcd] at hc'); go_simp; (first | done | with_reducible rfl)); (try simp only [Act.put, List.setIfInBounds_toArray, List.set_cons_zero, List.set_cons_succ])) | (refine sq_skip rfl rfl ?_; (try simp only [Act.put, List.setIfInBounds_toArray, List.set_cons_zero, List.set_cons_succ])) | (refine sq_noloud rfl rfl ?_; (try simp only [Act.put, List.setIfInBounds_toArray, List.set_cons_zero, List.set_cons_succ])) | (refine sq_takeg (v := ?_) rfl rfl ?_ ?_; rotate_left; (intro w' hx'; have hc' := hx'.cells.1; (try simp only [wcd] at hc'); go_simp; (first | done | with_reducible rfl)); (try simp only [Act.put, List.setIfInBounds_toArray, List.set_cons_zero, List.set_cons_succ]))))
        (refine sq_loudg rfl rfl fun K hK => ?_; go_simp)
        refine (lints_c (z := z1) (⟨A1, a1, rfl, n1W.ext hy9⟩ : Zi w9 _ (.agg #[.bool z1.neg, .slice A1 z1.mag.length a1]) z1) hr9).mono ?_
        rintro e w10 ⟨rfl, hx10⟩
        have hy10 := hy9.trans hx10
        (refine hK _ _ (by repeat (first | with_reducible assumption | with_reducible exact Ext.refl _ | with_reducible refine Ext.drewN ?_ _ | with_reducible refine Ext.drew ?_ | with_reducible refine Ext.alloc ?_ _ | (with_reducible refine Ext.setCell ?_ ?_ _; rotate_left; (first | exact Nat.le_refl _ | (dsimp only; omega) | (simp only [wsz]; omega))) | (with_reducible refine Ext.trans ?_ (by with_reducible assumption)))) ?_; clear hK K; (try simp only [Act.put, List.setIfInBounds_toArray, List.set_cons_zero, List.set_cons_succ]))
        (repeat (first | (refine sq_take (v := ?_) rfl rfl ?_ ?_; rotate_left; (intro w' hx'; have hc' := hx'.cells.1; (try simp only [wcd] at hc'); go_simp; (first | done | with_reducible rfl)); (try simp only [Act.put, List.setIfInBounds_toArray, List.set_cons_zero, List.set_cons_succ])) | (refine sq_skip rfl rfl ?_; (try simp only [Act.put, List.setIfInBounds_toArray, List.set_cons_zero, List.set_cons_succ])) | (refine sq_noloud rfl rfl ?_; (try simp only [Act.put, List.setIfInBounds_toArray, List.set_cons_zero, List.set_cons_succ])) | (refine sq_takeg (v := ?_) rfl rfl ?_ ?_; rotate_left; (intro w' hx'; have hc' := hx'.cells.1; (try simp only [wcd] at hc'); go_simp; (first | done | with_reducible rfl)); (try simp only [Act.put, List.setIfInBounds_toArray, List.set_cons_zero, List.set_cons_succ]))))
        (refine sq_last rfl rfl fun K hK => ?_; go_simp; refine hK _ _ ?_; clear hK K)
        go_wp2_with fail
        go_ret
        exact ⟨rfl, hE3.trans ((hx3W.trans HWW.out).trans hy10)⟩
      | none =>
        have ebn : bl = false := by rw [HBL.out, hnx]; rfl
        have hcnt := fun (U : World) (hU : Ext w3 U) (r : Value) (Q : Nat → Prop) (z : Z) (hz : Zi U Q r z) (hzl : z.mag.length ≤ N + 5) => HC2.out U hU r Q z hz hzl
        simp only [finds_dn0 hsk hnx] at hcnt
        obtain ⟨z0, hz0⟩ : ∃ z0, z0 = cz 0 := ⟨_, rfl⟩
        have hnu := HNum.out 0 (by omega) (by omega)
        rw [← hz0] at hnu
        simp only [← hz0] at hcnt
        have hadd := fun (U : World) (hU : Ext W6 U) => rsubz_c (w := U) (⟨Ax, ax, rfl, hnx3.ext (hx3W.trans hU)⟩ : Zi U Y (.agg #[.bool x.neg, .slice Ax x.mag.length ax]) x) (⟨Ad, ad, rfl, hndW.ext hU⟩ : Zi U _ (.agg #[.bool zd.neg, .slice Ad zd.mag.length ad]) zd) (by omega) (by omega)
        obtain ⟨zs, hzs⟩ : ∃ zs, zs = cz (x.v - zd.v) := ⟨_, rfl⟩
        simp only [← hzs] at hadd
        have zsl : zs.mag.length ≤ N + 5 := by
          rw [hzs, cz_len]
          have h2 : zl zd.v ≤ N := Nat.le_trans (zl_of hndW.lt) zdl
          have := zl_sub (k := N) zx h2
          omega
        subst ebn
        have hb0 : (z0.neg, z0.mag) = (false, []) := by rw [hz0]; rfl
        have HAdd := Lib.hid hadd; have HCt := Lib.hid hcnt; have HNu := Lib.hid hnu
        have h10r := h10.rules; have h10l := h10.lt
        clear hadd hcnt hnu hnx hz0 hzs h11r h11l hb0
        go_wp2_with fail
        refine wp_region_free [(0, 128, []), (1, 129, []), (2, 130, []), (3, 131, [(1, 129), (2, 130)]), (4, 132, []), (5, 133, [(0, 128), (3, 131), (4, 132)]), (6, 127, [(5, 133)]), (7, 134, [(6, 127)]), (8, 135, [(6, 127)]), (9, 19, [])] [10, 11] [128, 129, 130, 131, 132, 133, 127, 134, 135, 19] [9] [8] [phiEq (.pointer (some ⟨g, 0, none⟩)), phiEq (.agg #[.bool x.neg, .slice Ax x.mag.length ax]), phiEq (.agg #[.bool zd.neg, .slice Ad zd.mag.length ad]), phiZ (fun _ => True) zs, phiEq (.agg #[.bool x.neg, .slice Ax x.mag.length ax]), phiC z0, phiC z0, phiZ (fun _ => True) z0, phiEq (.int .i64 0), phiBox W6.heap.size 25 #[.bool false, .slice none 0 0]] rfl (by kernel_rfl) (by intro _ _ d _ _ h; cases d <;> exact h) (by kernel_rfl) (by kernel_rfl) ?_ ?_
        · have q0 : W6.cell? ⟨g6, 0, none⟩ = some (.bool x.neg) := by rw [h6.cell]; rfl
          have q1 : W6.cell? ⟨g6, 1, none⟩ = some (.slice Ax x.mag.length ax) := by rw [h6.cell]; rfl
          have q2 : W6.cell? ⟨w4.heap.size, 0, none⟩ = some (.bool zd.neg) := by rw [h10.cell]; rfl
          have q3 : W6.cell? ⟨w4.heap.size, 1, none⟩ = some (.slice Ad zd.mag.length ad) := by rw [h10.cell]; rfl
          (refine ps_eq rfl rfl rfl rfl rfl rfl ?_ ?_; focus (intro f w1 hx hd; have hc' := hx.cells.1; (try simp only [wcd] at hc'); (dsimp only [PhiDeps, phiAt, phiEq, phiZ, phiAny, phiBox] at hd); (simp only [fillA]; (try simp only [Act.put, List.setIfInBounds_toArray, List.set_cons_zero, List.set_cons_succ])); (try simp only [hd]); go_simp; (first | done | with_reducible rfl)))
          (refine ps_eq rfl rfl rfl rfl rfl rfl ?_ ?_; focus (intro f w1 hx hd; have hc' := hx.cells.1; (try simp only [wcd] at hc'); have z0 := (hc' _ 0 h6l).trans q0; have z1 := (hc' _ 1 h6l).trans q1; clear hc'; (dsimp only [PhiDeps, phiAt, phiEq, phiZ, phiAny, phiBox] at hd); (simp only [fillA]; (try simp only [Act.put, List.setIfInBounds_toArray, List.set_cons_zero, List.set_cons_succ])); (try simp only [hd]); go_simp; (first | done | with_reducible rfl)))
          (refine ps_eq rfl rfl rfl rfl rfl rfl ?_ ?_; focus (intro f w1 hx hd; have hc' := hx.cells.1; (try simp only [wcd] at hc'); have z0 := (hc' _ 0 h10l).trans q2; have z1 := (hc' _ 1 h10l).trans q3; clear hc'; (dsimp only [PhiDeps, phiAt, phiEq, phiZ, phiAny, phiBox] at hd); (simp only [fillA]; (try simp only [Act.put, List.setIfInBounds_toArray, List.set_cons_zero, List.set_cons_succ])); (try simp only [hd]); go_simp; (first | done | with_reducible rfl)))
          (refine ps_loud rfl rfl rfl rfl rfl (fun f w1 hx hd K hK => ?_) ?_)
          · (have hc' := hx.cells.1; (try simp only [wcd] at hc'); (dsimp only [PhiDeps, phiAt, phiEq, phiZ, phiAny, phiBox] at hd); simp only [fillA, Act.put, List.setIfInBounds_toArray, List.set_cons_zero, List.set_cons_succ] at hK; (simp only [fillA]; (try simp only [Act.put, List.setIfInBounds_toArray, List.set_cons_zero, List.set_cons_succ])); (try simp only [hd] at hK ⊢); go_simp)
            refine (HAdd.out _ (by repeat (first | with_reducible assumption | with_reducible exact Ext.refl _ | with_reducible refine Ext.drewN ?_ _ | with_reducible refine Ext.drew ?_ | with_reducible refine Ext.alloc ?_ _ | (with_reducible refine Ext.setCell ?_ ?_ _; rotate_left; (first | exact Nat.le_refl _ | (dsimp only; omega) | (simp only [wsz]; omega))) | (with_reducible refine Ext.trans ?_ (by with_reducible assumption))))).mono ?_
            rintro e w6 ⟨r, rfl, hr, hx6⟩
            (refine hK _ _ (by repeat (first | with_reducible assumption | with_reducible exact Ext.refl _ | with_reducible refine Ext.drewN ?_ _ | with_reducible refine Ext.drew ?_ | with_reducible refine Ext.alloc ?_ _ | (with_reducible refine Ext.setCell ?_ ?_ _; rotate_left; (first | exact Nat.le_refl _ | (dsimp only; omega) | (simp only [wsz]; omega))) | (with_reducible refine Ext.trans ?_ (by with_reducible assumption)))) ?_; dsimp only [phiAt, phiEq, phiZ, phiAny, phiBox])
            exact hr.widen fun _ _ _ => trivial
          (refine ps_eq rfl rfl rfl rfl rfl rfl ?_ ?_; focus (intro f w1 hx hd; have hc' := hx.cells.1; (try simp only [wcd] at hc'); have z0 := (hc' _ 0 h6l).trans q0; have z1 := (hc' _ 1 h6l).trans q1; clear hc'; (dsimp only [PhiDeps, phiAt, phiEq, phiZ, phiAny, phiBox] at hd); (simp only [fillA]; (try simp only [Act.put, List.setIfInBounds_toArray, List.set_cons_zero, List.set_cons_succ])); (try simp only [hd]); go_simp; (first | done | with_reducible rfl)))
          (refine ps_loud rfl rfl rfl rfl rfl (fun f w1 hx hd K hK => ?_) ?_)
          · (have hc' := hx.cells.1; (try simp only [wcd] at hc'); (dsimp only [PhiDeps, phiAt, phiEq, phiZ, phiAny, phiBox] at hd); simp only [fillA, Act.put, List.setIfInBounds_toArray, List.set_cons_zero, List.set_cons_succ] at hK; (simp only [fillA]; (try simp only [Act.put, List.setIfInBounds_toArray, List.set_cons_zero, List.set_cons_succ])); (try simp only [hd] at hK ⊢); go_simp)
            refine (HCt.out _ (hx3W.trans (by repeat (first | with_reducible assumption | with_reducible exact Ext.refl _ | with_reducible refine Ext.drewN ?_ _ | with_reducible refine Ext.drew ?_ | with_reducible refine Ext.alloc ?_ _ | (with_reducible refine Ext.setCell ?_ ?_ _; rotate_left; (first | exact Nat.le_refl _ | (dsimp only; omega) | (simp only [wsz]; omega))) | (with_reducible refine Ext.trans ?_ (by with_reducible assumption))))) _ _ zs hd.2.1 zsl).mono ?_
            rintro e w6 ⟨r, rfl, hr, hx6⟩
            (refine hK _ _ (by repeat (first | with_reducible assumption | with_reducible exact Ext.refl _ | with_reducible refine Ext.drewN ?_ _ | with_reducible refine Ext.drew ?_ | with_reducible refine Ext.alloc ?_ _ | (with_reducible refine Ext.setCell ?_ ?_ _; rotate_left; (first | exact Nat.le_refl _ | (dsimp only; omega) | (simp only [wsz]; omega))) | (with_reducible refine Ext.trans ?_ (by with_reducible assumption)))) ?_; dsimp only [phiAt, phiEq, phiZ, phiAny, phiBox])
            exact ⟨r, rfl, hr.widen fun _ _ _ => trivial⟩
          refine ps_take rfl rfl rfl rfl rfl ?_ ?_
          · intro f w1 hx hd
            (dsimp only [PhiDeps, phiAt, phiEq, phiZ, phiAny, phiBox] at hd)
            obtain ⟨⟨r, e, h1⟩, -⟩ := hd
            refine ⟨_, ?_, r, e, h1⟩
            (simp only [fillA]; (try simp only [Act.put, List.setIfInBounds_toArray, List.set_cons_zero, List.set_cons_succ]))
            go_simp
          refine ps_take rfl rfl rfl rfl rfl ?_ ?_
          · intro f w1 hx hd
            (dsimp only [PhiDeps, phiAt, phiEq, phiZ, phiAny, phiBox] at hd)
            obtain ⟨⟨r, e, h1⟩, -⟩ := hd
            refine ⟨r, ?_, h1⟩
            (simp only [fillA]; (try simp only [Act.put, List.setIfInBounds_toArray, List.set_cons_zero, List.set_cons_succ]))
            simp only [e]
            go_simp
          refine ps_peq rfl rfl rfl rfl rfl ?_ ?_
          · intro f w1 hx hd w'
            (dsimp only [PhiDeps, phiAt, phiEq, phiZ, phiAny, phiBox] at hd)
            obtain ⟨⟨r, e, h1⟩, -⟩ := hd
            (simp only [fillA]; (try simp only [Act.put, List.setIfInBounds_toArray, List.set_cons_zero, List.set_cons_succ]))
            simp only [e]
            go_simp
          (refine ps_alloc rfl rfl rfl rfl rfl ?_ (by repeat (first | exact ab_nil | refine ab_cons rfl ?_)) ?_ ?_; (focus (first | omega | (simp only [wsz]; done) | (simp only [wsz]; omega))); (focus (intro f w1; (simp only [fillA]; (try simp only [Act.put, List.setIfInBounds_toArray, List.set_cons_zero, List.set_cons_succ])); go_simp; try (with_reducible rfl))))
          exact ps_nil
        · intro f w2 hx2 hall hne2
          (dsimp only [PhiAll, phiAt, phiEq, phiZ, phiAny, phiBox] at hall)
          obtain ⟨f79, f80, f81, -, f82, -, -, ⟨A0, a0, f85, n85⟩, f86, ⟨g15, f15, l15, x15⟩, -⟩ := hall
          clear hne2
          (simp only [fillA]; (try simp only [Act.put, List.setIfInBounds_toArray, List.set_cons_zero, List.set_cons_succ]))
          simp only [f79, f80, f81, f82, f85, f86, f15]
          have x15r := x15.rules; have x15l := x15.lt
          have hx2' : Ext W6 w2 := (Ext.refl W6).drew.trans hx2
          clear h6r h10r
          (refine sh_late rfl rfl fun K hK => ?_; go_simp; refine hK _ _ ?_; clear hK K)
          (refine sh_late rfl rfl fun K hK => ?_; go_simp; refine hK _ _ ?_; clear hK K)
          refine sh_end ?_
          refine x_named fun T hT => ?_
          have u15 : Box T g15 25 #[.bool z0.neg, .slice A0 z0.mag.length a0] := by rw [hT]; exact (x15.set_ 0 _).set_ 1 _
          have hxT : Ext W6 T := by rw [hT]; exact (hx2'.setCell (by simp only; omega) _).setCell (by simp only; omega) _
          have n0T : Nl T (fun _ => True) A0 a0 z0.mag := by
            rw [hT]
            refine (Nl.keep (n85.off x15 (by simp)) ?_).widen fun _ _ _ => trivial
            exact (((Kp.refl w2).setCell (fun h => h.2 rfl) _).setCell (fun h => h.2 rfl) _)
          clear hT x15r x15l x15 hx2 hx2' n85
          have u15r := u15.rules; have u15l := u15.lt
          go_upto_region 20 with fail
          refine wp_region_seq 7 [(0, true), (1, true), (2, true), (3, true), (4, false), (5, false), (6, true), (7, false)] rfl (by kernel_rfl) (by intro _ _ d _ _ h; cases d <;> exact h) ?_
          (repeat (first | (refine sq_take (v := ?_) rfl rfl ?_ ?_; rotate_left; (intro w' hx'; have hc' := hx'.cells.1; (try simp only [wcd] at hc'); go_simp; (first | done | with_reducible rfl)); (try simp only [Act.put, List.setIfInBounds_toArray, List.set_cons_zero, List.set_cons_succ])) | (refine sq_skip rfl rfl ?_; (try simp only [Act.put, List.setIfInBounds_toArray, List.set_cons_zero, List.set_cons_succ])) | (refine sq_noloud rfl rfl ?_; (try simp only [Act.put, List.setIfInBounds_toArray, List.set_cons_zero, List.set_cons_succ])) | (refine sq_takeg (v := ?_) rfl rfl ?_ ?_; rotate_left; (intro w' hx'; have hc' := hx'.cells.1; (try simp only [wcd] at hc'); go_simp; (first | done | with_reducible rfl)); (try simp only [Act.put, List.setIfInBounds_toArray, List.set_cons_zero, List.set_cons_succ]))))
          (refine sq_loudg rfl rfl fun K hK => ?_; go_simp)
          refine (HNu.out _).mono ?_
          rintro e w6 ⟨r6, rfl, hr6, hx6⟩
          have hT6 : Ext T w6 := (by repeat (first | with_reducible assumption | with_reducible exact Ext.refl _ | with_reducible refine Ext.drewN ?_ _ | with_reducible refine Ext.drew ?_ | with_reducible refine Ext.alloc ?_ _ | (with_reducible refine Ext.setCell ?_ ?_ _; rotate_left; (first | exact Nat.le_refl _ | (dsimp only; omega) | (simp only [wsz]; omega))) | (with_reducible refine Ext.trans ?_ (by with_reducible assumption))))
          (refine hK _ _ (by repeat (first | with_reducible assumption | with_reducible exact Ext.refl _ | with_reducible refine Ext.drewN ?_ _ | with_reducible refine Ext.drew ?_ | with_reducible refine Ext.alloc ?_ _ | (with_reducible refine Ext.setCell ?_ ?_ _; rotate_left; (first | exact Nat.le_refl _ | (dsimp only; omega) | (simp only [wsz]; omega))) | (with_reducible refine Ext.trans ?_ (by with_reducible assumption)))) ?_; clear hK K; (try simp only [Act.put, List.setIfInBounds_toArray, List.set_cons_zero, List.set_cons_succ]))
          (repeat (first | (refine sq_take (v := ?_) rfl rfl ?_ ?_; rotate_left; (intro w' hx'; have hc' := hx'.cells.1; (try simp only [wcd] at hc'); go_simp; (first | done | with_reducible rfl)); (try simp only [Act.put, List.setIfInBounds_toArray, List.set_cons_zero, List.set_cons_succ])) | (refine sq_skip rfl rfl ?_; (try simp only [Act.put, List.setIfInBounds_toArray, List.set_cons_zero, List.set_cons_succ])) | (refine sq_noloud rfl rfl ?_; (try simp only [Act.put, List.setIfInBounds_toArray, List.set_cons_zero, List.set_cons_succ])) | (refine sq_takeg (v := ?_) rfl rfl ?_ ?_; rotate_left; (intro w' hx'; have hc' := hx'.cells.1; (try simp only [wcd] at hc'); go_simp; (first | done | with_reducible rfl)); (try simp only [Act.put, List.setIfInBounds_toArray, List.set_cons_zero, List.set_cons_succ]))))
          (refine sq_loudg rfl rfl fun K hK => ?_; go_simp)
          refine (lints_c (z := z0) (⟨A0, a0, rfl, n0T.ext hT6⟩ : Zi w6 _ (.agg #[.bool z0.neg, .slice A0 z0.mag.length a0]) z0) hr6).mono ?_
          rintro e w7 ⟨rfl, hx7⟩
          have hT7 := hT6.trans hx7
          (refine hK _ _ (by repeat (first | with_reducible assumption | with_reducible exact Ext.refl _ | with_reducible refine Ext.drewN ?_ _ | with_reducible refine Ext.drew ?_ | with_reducible refine Ext.alloc ?_ _ | (with_reducible refine Ext.setCell ?_ ?_ _; rotate_left; (first | exact Nat.le_refl _ | (dsimp only; omega) | (simp only [wsz]; omega))) | (with_reducible refine Ext.trans ?_ (by with_reducible assumption)))) ?_; clear hK K; (try simp only [Act.put, List.setIfInBounds_toArray, List.set_cons_zero, List.set_cons_succ]))
          (repeat (first | (refine sq_take (v := ?_) rfl rfl ?_ ?_; rotate_left; (intro w' hx'; have hc' := hx'.cells.1; (try simp only [wcd] at hc'); go_simp; (first | done | with_reducible rfl)); (try simp only [Act.put, List.setIfInBounds_toArray, List.set_cons_zero, List.set_cons_succ])) | (refine sq_skip rfl rfl ?_; (try simp only [Act.put, List.setIfInBounds_toArray, List.set_cons_zero, List.set_cons_succ])) | (refine sq_noloud rfl rfl ?_; (try simp only [Act.put, List.setIfInBounds_toArray, List.set_cons_zero, List.set_cons_succ])) | (refine sq_takeg (v := ?_) rfl rfl ?_ ?_; rotate_left; (intro w' hx'; have hc' := hx'.cells.1; (try simp only [wcd] at hc'); go_simp; (first | done | with_reducible rfl)); (try simp only [Act.put, List.setIfInBounds_toArray, List.set_cons_zero, List.set_cons_succ]))))
          (refine sq_last rfl rfl fun K hK => ?_; go_simp; refine hK _ _ ?_; clear hK K)
          go_wp2_with fail
          go_ret
          exact ⟨rfl, hE3.trans ((hx3W.trans hxT).trans hT7)⟩

end Go.Proofs.YtbblgjjomgipfaaGreat
