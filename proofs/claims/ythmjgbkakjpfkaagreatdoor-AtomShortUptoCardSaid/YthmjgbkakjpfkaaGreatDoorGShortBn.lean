/- riddlelaw06.AtomShort. No conditions. -/
import Derived.Test.YthmjgbkakjpfkaaGreatDoorGShortBl
import Derived.Test.YthmjgbkakjpfkaaGreatDoorGShortBf
import Derived.Test.YthmjgbkakjpfkaaGreatDoorGShortBh
namespace Go.Proofs.YthmjgbkakjpfkaaGreatDoor
open Go.RowKit

/-- Two numbers, written out. -/
theorem Zs.two {w : World} {X : Nat → Prop} {g : Nat} {x y : Z} {A B : Option Addr} {c d : Nat} {e : TypeId} (hg : g = w.heap.size) (hX : X g) (h1 : Nl w X A c x.mag) (h2 : Nl w X B d y.mag) :
    Zs (w.alloc (.cells #[.bool x.neg, .slice A x.mag.length c, .bool y.neg, .slice B y.mag.length d] e)) X (some ⟨g, 0, none⟩) 2 [x, y] :=
  Sl.of_flat (by simp) (by simp [maxLen]) (Thaw.new hg _ _) (Fl.append (Fl.one (cs := [.bool x.neg, .slice A x.mag.length c]) ⟨A, c, rfl, h1.keep ((Kp.refl w).alloc _)⟩ rfl) (Fl.one (cs := [.bool y.neg, .slice B y.mag.length d]) ⟨B, d, rfl, h2.keep ((Kp.refl w).alloc _)⟩ rfl)) fun _ => ⟨_, _, rfl, hX, fun j u hu => by
    rw [World.cell?_alloc_at (hn := hg)]
    match j, hu with
    | 0, hu => simpa using hu
    | 1, hu => simpa using hu
    | 2, hu => simpa using hu
    | 3, hu => simpa using hu⟩
theorem foldl_gcd_zl {N : Nat} : ∀ (l : List Int) (g : Nat), zl (g : Int) ≤ N → (∀ x ∈ l, zl x ≤ N) → zl ((l.foldl (fun g x => Nat.gcd g x.natAbs) g : Nat) : Int) ≤ N
  | [], _, h, _ => h
  | x :: l, _, h, hl => foldl_gcd_zl l _ (gcd_zl h (hl x (List.mem_cons_self ..))) fun y hy => hl y (List.mem_cons_of_mem _ hy)
theorem gcdL_zl {N : Nat} {l : List Int} (h : ∀ x ∈ l, zl x ≤ N) : zl ((gcdL l : Nat) : Int) ≤ N := foldl_gcd_zl l 0 (Nat.zero_le _) h
theorem gcdL_two (L : List Int) (x : Int) : gcdL [(gcdL L : Int), x] = gcdL (L ++ [x]) := by
  rw [gcdL_snoc]
  simp [gcdL]

set_option maxRecDepth 100000 in
set_option maxHeartbeats 12800000 in
theorem lawshort_c {v : Value} {a : Ar} {w : World} {X : Nat → Prop} {N : Nat} (h : Av w X v a) (hs : a.sz N) (hN2 : 2 ≤ N) (hN : N ≤ 4194304) (htab : Tab w) :
    Calls Tryz.prog 3 #[v] w fun e w' => e = .returned (.bool true) ∧ Ext w w' := by
  have hno := fun (U : World) (hU : Ext w U) => anorm_c (h.ext hU) hs hN2 (by omega)
  have hfi := normA_fine a
  have hsz : (normA a).1.sz (2 * N) := by
    obtain ⟨D, c, A, e, C, f, -, -, h1, h2, h3⟩ := h
    exact normA_sz hN2 hs h1.lb (Tv.lb (⟨A, e, C, f, rfl, h2, h3⟩ : Tv w X _ a.t))
  obtain ⟨n, hn⟩ : ∃ n, n = (normA a).1 := ⟨_, rfl⟩
  obtain ⟨e0, he⟩ : ∃ n, n = (normA a).2 := ⟨_, rfl⟩
  rw [← hn] at hsz hfi
  rw [← he] at hfi
  simp only [← hn, ← he] at hno
  have haw := fun (U : World) (hU : Ext w U) => awake6_c U (htab.ext hU)
  obtain ⟨D, c, A, e, C, f, rfl, hk, h1, h2, h3⟩ := h
  have HNO := Lib.hid hno; have HAW := Lib.hid haw; have HSZ := Lib.hid hsz
  clear hno hn he hsz haw
  go_enter Tryz.func3, Tryz.ntmps3
  go_wp2_with fail
  refine (HAW.out _ (by repeat (first | with_reducible assumption | with_reducible exact Ext.refl _ | with_reducible refine Ext.drewN ?_ _ | with_reducible refine Ext.drew ?_ | with_reducible refine Ext.alloc ?_ _ | (with_reducible refine Ext.setCell ?_ ?_ _; rotate_left; (first | exact Nat.le_refl _ | (dsimp only; omega) | (simp only [wsz]; omega))) | (with_reducible refine Ext.trans ?_ (by with_reducible assumption))))).mono ?_
  rintro e' w0 ⟨rfl, hx0⟩
  have b0 : Box w0 w.heap.size 29 _ := Box.ext (Box.new w _ _) hx0
  have b0r := b0.rules; have b0l := b0.lt
  have hE0 : Ext w w0 := ((Ext.refl w).alloc _).trans hx0
  go_wp2_with fail
  refine (HNO.out _ hE0).mono ?_
  rintro e1 w1 ⟨_, rfl, hA, hx1⟩
  have hA1 := hA.av
  obtain ⟨D1, c1, A1, f1, C1, g1, rfl, hk1, hD, hP, hK⟩ := hA1
  go_upto_region 3 with fail
  refine wp_named fun V hV => ?_
  obtain ⟨g, hg⟩ : ∃ g, g = w1.heap.size := ⟨_, rfl⟩
  have b4 : Box V g 29 #[.int .i64 n.kd, .bool n.d.neg, .slice D1 n.d.mag.length c1, .slice A1 n.t.ps.length f1, .bool n.t.k.neg, .slice C1 n.t.k.mag.length g1] := by rw [hV, hg]; exact Box.new _ _ _
  have hx5 : Ext w1 V := by rw [hV]; exact (Ext.refl w1).alloc _
  have hE : Ext w V := (hE0.trans hx1).trans hx5
  have hD := Nl.ext hD hx5; have hP := hP.ext hx5; have hK := Nl.ext hK hx5
  have hgV : g < V.heap.size := b4.lt
  rw [← hg]
  clear hV hg hA hx5 hx0 hx1 hE0 b0 b0r b0l HNO HAW
  rcases hfi with ⟨b, rfl⟩ | ⟨he0, hf⟩
  · have e1 : (constA b).t.ps.length = 0 := rfl
    have e2 : (constA b).d.mag.length = 0 := rfl
    rw [e1, e2] at b4
    clear e1 e2
    by_cases he0 : e0 = 0
    · subst he0
      cases b
      · have b4' : Box V g 29 #[.int .i64 0, .bool (constA false).d.neg, .slice D1 0 c1, .slice A1 0 f1, .bool (constA false).t.k.neg, .slice C1 (constA false).t.k.mag.length g1] := b4
        have b4r := b4'.rules; have b4l := b4'.lt
        clear b4 b4' hD hP hK
        go_wp2_with fail
        (refine bodyPost_ret (v := ?_) ?_ rfl ?_; rotate_left; (simp only [results, Tryz.results3]; go_simp; (first | done | with_reducible rfl)))
        exact ⟨rfl, hE⟩
      · have b4' : Box V g 29 #[.int .i64 1, .bool (constA true).d.neg, .slice D1 0 c1, .slice A1 0 f1, .bool (constA true).t.k.neg, .slice C1 (constA true).t.k.mag.length g1] := b4
        have b4r := b4'.rules; have b4l := b4'.lt
        clear b4 b4' hD hP hK
        go_wp2_with fail
        (refine bodyPost_ret (v := ?_) ?_ rfl ?_; rotate_left; (simp only [results, Tryz.results3]; go_simp; (first | done | with_reducible rfl)))
        exact ⟨rfl, hE⟩
    · have he2 : (e0 == 0) = false := by rw [beq_eq_false_iff_ne]; exact he0
      have he3 : (e0 != 0) = true := by rw [bne_iff_ne]; exact he0
      have b4r := b4.rules; have b4l := b4.lt
      clear b4 hD hP hK
      go_wp2_with fail
      (refine bodyPost_ret (v := ?_) ?_ rfl ?_; rotate_left; (simp only [results, Tryz.results3]; go_simp; (first | done | with_reducible rfl)))
      exact ⟨rfl, hE⟩
  · subst he0
    obtain ⟨hkd, l, kk, hcan, hnt, hne, hgc⟩ := hf
    have hps : n.t.ps = cl l := by rw [hnt]; unfold ct; rw [cn_canon hcan]
    have hpl : n.t.ps.length = l.length := by rw [hps, cl_len]
    have hl0 : 0 < n.t.ps.length := by rw [hpl]; exact List.length_pos_iff.2 hne
    have hvl : vl n.t.ps = l := by rw [hps, vl_cl]
    have hva : n.t.valid = true := by rw [hnt]; exact ct_valid _ _
    have hkdn : ((n.kd : Int) == 0) = false ∧ ((n.kd : Int) == 1) = false := by
      rcases hkd with ⟨h, -⟩ | ⟨h | h, -⟩ <;> rw [h] <;> exact ⟨rfl, rfl⟩
    obtain ⟨hk0, hk1'⟩ := hkdn
    have hdl := HSZ.out.1; have hpz := HSZ.out.2.1; have hpm := HSZ.out.2.2.1
    rw [hvl] at hkd
    have hdz : zl n.d.v ≤ 2 * N := Nat.le_trans (zl_of hD.lb) hdl
    have hlz : ∀ p ∈ l, zl p.2 ≤ 2 * N := by rw [← hvl]; exact zl_vl (Pl.lb hP) hpm
    have HDZ := Lib.hid hdz; have HLZ := Lib.hid hlz
    clear hdz hlz
    obtain ⟨kd, hkde⟩ : ∃ k, k = n.kd := ⟨_, rfl⟩
    rw [← hkde] at hkd b4 hk0 hk1'
    have htv : Tv V (w0.heap.size ≤ ·) (.agg #[.slice A1 n.t.ps.length f1, .bool n.t.k.neg, .slice C1 n.t.k.mag.length g1]) n.t := ⟨A1, f1, C1, g1, rfl, hP, hK⟩
    have hab := fun (U : World) (hU : Ext V U) => zabs_c (⟨D1, c1, rfl, Nl.ext hD hU⟩ : Zi U _ (.agg #[.bool n.d.neg, .slice D1 n.d.mag.length c1]) n.d) (by omega)
    have HAB := Lib.hid hab; have HKD := Lib.hid hkd; have HKE := Lib.hid hkde; have HGC := Lib.hid hgc; have HVA := Lib.hid hva; have HPS := Lib.hid hps; have HNT := Lib.hid hnt; have HPL := Lib.hid hpl
    have HPM := Lib.hid hpm; have HVL := Lib.hid hvl
    have hln : n.t.ps.length ≤ 2 * N := hpz
    clear hab hkd hkde hgc hva hps hnt hpm hvl hpz hpl
    have b4r := b4.rules; have b4l := b4.lt
    go_wp2_with fail
    refine (HAB.out _ (by repeat (first | with_reducible assumption | with_reducible exact Ext.refl _ | with_reducible refine Ext.drewN ?_ _ | with_reducible refine Ext.drew ?_ | with_reducible refine Ext.alloc ?_ _ | (with_reducible refine Ext.setCell ?_ ?_ _; rotate_left; (first | exact Nat.le_refl _ | (dsimp only; omega) | (simp only [wsz]; omega))) | (with_reducible refine Ext.trans ?_ (by with_reducible assumption))))).mono ?_
    rintro e2 w2 ⟨_, rfl, ⟨A2, c2, rfl, hG⟩, hx2⟩
    go_upto_region 6 with fail
    refine wp_named fun W hW => ?_
    obtain ⟨g6, hg6⟩ : ∃ g, g = w2.heap.size := ⟨_, rfl⟩
    have b6 : Box W g6 24 #[.bool (cz ((n.d.v.natAbs : Nat) : Int)).neg, .slice A2 (cz ((n.d.v.natAbs : Nat) : Int)).mag.length c2] := by rw [hW, hg6]; exact Box.new _ _ _
    have hxW : Ext V W := by rw [hW]; exact hx2.alloc _
    have hGW : Nl W (fun b => b < g6) A2 c2 (cz ((n.d.v.natAbs : Nat) : Int)).mag := by
      rw [hW]
      exact Nl.keep (hG.widen fun b _ hl => by rw [hg6]; exact hl) ((Kp.refl w2).alloc _)
    have hgg : g < g6 := by have := hx2.size; omega
    have hVg : V.heap.size ≤ g6 := by have := hx2.size; omega
    rw [← hg6]
    clear hW hg6 hG hx2 b4r b4l
    have hz0 : cz ((n.d.v.natAbs : Nat) : Int) = cz ((gcdL (n.d.v :: (l.map Prod.snd).take 0) : Nat) : Int) := by simp [gcdL]
    rw [hz0] at b6 hGW
    clear hz0
    go_wp2_with fail
    go_loopw [7] (fun iv wr => ∃ (i : Nat) (z : Z) (A3 : Option Addr) (c3 : Nat), i ≤ n.t.ps.length ∧ iv = .int .i64 (i : Int) ∧ z = cz ((gcdL (n.d.v :: (l.map Prod.snd).take i) : Nat) : Int) ∧ Box wr g6 24 #[.bool z.neg, .slice A3 z.mag.length c3] ∧ Nl wr (fun b => b ≠ g6) A3 c3 z.mag ∧ Ext V wr) (fun iv _ => n.t.ps.length - (intOf iv).toNat)
    case atStart => exact ⟨0, _, A2, c2, Nat.zero_le _, rfl, rfl, b6, hGW.widen fun b hb _ => Nat.ne_of_lt hb, hxW⟩
    case round =>
      clear b6 hGW hxW
      obtain ⟨i, z, A3, c3, hi, rfl, hz, b6, hZ, hx⟩ := hrel
      have d4 := b4.ext hx
      have d4r := d4.rules; have d4l := d4.lt
      by_cases hlt : i < n.t.ps.length
      · obtain ⟨b, o, B', d', rfl, hX, hc0, hc1, hc2, hi6, hNV⟩ := hP.at_ hlt
        have hbV := World.block_lt_of_cell? _ _ hc0
        have hb := Nat.lt_of_lt_of_le hbV hx.size
        have hw0 := (hx.cells.1 _ _ hbV).trans hc0; have hw1 := (hx.cells.1 _ _ hbV).trans hc1; have hw2 := (hx.cells.1 _ _ hbV).trans hc2
        have hN2' := Nl.ext hNV hx
        have kl : (i : Int) < (n.t.ps.length : Int) := by omega
        have hil : i < l.length := by have := HPL.out; omega
        have hpv : (pth n.t.ps i).2 = cz l[i].2 := by rw [pth_eq _ _ hlt]; simp only [HPS.out]; simp [cl]
        have hpm : (pth n.t.ps i).2.mag.length ≤ 2 * N := HPM.out _ (by rw [pth_eq _ _ hlt]; exact List.getElem_mem hlt)
        obtain ⟨p, hp⟩ : ∃ p, p = pth n.t.ps i := ⟨_, rfl⟩
        rw [← hp] at hc0 hc1 hc2 hw0 hw1 hw2 hNV hN2' hpv hpm hi6
        have hpvv : p.2.v = l[i].2 := by rw [hpv, cz_v]
        have hpl : l[i].2 = p.2.v := hpvv.symm
        have hmem : l[i] ∈ l := List.getElem_mem hil
        have hzg : zl ((gcdL (n.d.v :: (l.map Prod.snd).take i) : Nat) : Int) ≤ 2 * N := gcdL_zl fun x hx => by
          rcases List.mem_cons.1 hx with rfl | hx
          · exact HDZ.out
          · obtain ⟨q, hq, rfl⟩ := List.mem_map.1 (List.mem_of_mem_take hx)
            exact HLZ.out q hq
        have hzl : z.mag.length ≤ 2 * N ∧ zl z.v ≤ 2 * N := by rw [hz, cz_len, cz_v]; exact ⟨hzg, hzg⟩
        have hgcd := fun (U : World) (Q : Nat → Prop) (A : Option Addr) (c : Nat) (hz2 : Zs U Q A c [z, p.2]) => zgcd_c (N := 2 * N) hz2 (by omega) (fun y hy => by
          rcases List.mem_cons.1 hy with rfl | hy
          · exact hzl
          · obtain rfl := List.mem_singleton.1 hy
            exact ⟨hpm, Nat.le_trans (zl_of hN2'.lb) hpm⟩) (by simp)
        have hgz : gcdL ([z, p.2].map Z.v) = gcdL (n.d.v :: (l.map Prod.snd).take (i + 1)) := by
          rw [List.map_cons, List.map_singleton, hz, cz_v, gcdL_two]
          congr 1
          rw [List.take_succ_eq_append_getElem (by rw [List.length_map]; exact hil), List.cons_append, List.getElem_map, hpvv]
        rw [hgz] at hgcd
        obtain ⟨z', hz'⟩ : ∃ z, z = cz ((gcdL (n.d.v :: (l.map Prod.snd).take (i + 1)) : Nat) : Int) := ⟨_, rfl⟩
        simp only [← hz'] at hgcd
        have hsg := fun (U : World) (hU : Ext V U) => zsign_c (⟨B', d', rfl, Nl.ext hNV hU⟩ : Zi U _ (.agg #[.bool p.2.neg, .slice B' p.2.mag.length d']) p.2)
        have hcm := fun (U : World) (hU : Ext V U) => zcmp_c (⟨B', d', rfl, Nl.ext hNV hU⟩ : Zi U _ (.agg #[.bool p.2.neg, .slice B' p.2.mag.length d']) p.2) (⟨D1, c1, rfl, Nl.ext hD hU⟩ : Zi U _ (.agg #[.bool n.d.neg, .slice D1 n.d.mag.length c1]) n.d)
        have HGCD := Lib.hid hgcd; have HSG := Lib.hid hsg; have HCM := Lib.hid hcm; have HZ' := Lib.hid hz'; have HPV := Lib.hid hpl
        clear hgcd hsg hcm hz' hgz hpv hpvv hz hp hpl
        have b6r := b6.rules; have b6l := b6.lt
        go_wp2_with fail
        refine wp_region_seq 10 [(0, true), (1, true), (2, true), (3, true), (4, true), (5, true), (6, true), (7, true), (8, false), (9, false), (10, false)] rfl (by kernel_rfl) (by intro _ _ d _ _ h; cases d <;> exact h) ?_
        (repeat (refine sq_take (v := ?_) rfl rfl ?_ ?_; rotate_left; (intro w' hx'; have hc' := hx'.cells.1; (try simp only [wcd] at hc'); go_simp; (first | done | with_reducible rfl)); (try simp only [Act.put, List.setIfInBounds_toArray, List.set_cons_zero, List.set_cons_succ])))
        (refine sq_loud rfl rfl fun K hK => ?_; go_simp)
        have hy0 : Ext wr (wr.alloc (.cells #[.bool z.neg, .slice A3 z.mag.length c3, .bool p.2.neg, .slice B' p.2.mag.length d'] 24)).drew := ((Ext.refl wr).alloc _).drew
        have hzs : Zs (wr.alloc (.cells #[.bool z.neg, .slice A3 z.mag.length c3, .bool p.2.neg, .slice B' p.2.mag.length d'] 24)).drew (fun _ => True) (some ⟨wr.heap.size, 0, none⟩) 2 [z, p.2] := Sl.keep (Zs.two rfl trivial (hZ.widen fun _ _ _ => trivial) (hN2'.widen fun _ _ _ => trivial)) (Kp.refl _).drew
        refine hK _ _ (show Ext wr.drew (wr.drew.alloc _) from (Ext.refl _).alloc _) ?_
        clear hK K
        (try simp only [Act.put, List.setIfInBounds_toArray, List.set_cons_zero, List.set_cons_succ])
        (refine sq_loud rfl rfl fun K hK => ?_; go_simp)
        refine (HGCD.out _ _ _ _ hzs).mono ?_
        rintro e3 w3 ⟨_, rfl, ⟨A4, c4, rfl, hZ4⟩, hx3⟩
        have hy3 : Ext wr w3 := hy0.trans hx3
        refine hK _ _ hx3 ?_
        clear hK K
        (try simp only [Act.put, List.setIfInBounds_toArray, List.set_cons_zero, List.set_cons_succ])
        have b63 := b6.ext hy3
        have b63r := b63.rules; have b63l := b63.lt
        have hs3 := hy0.size
        (refine sq_last rfl rfl fun K hK => ?_; go_simp; refine hK _ _ ?_; clear hK K)
        go_upto_region 10 with fail
        refine wp_named fun U hU => ?_
        have k6 : Box U g6 24 #[.bool z'.neg, .slice A4 z'.mag.length c4] := by rw [hU]; exact (b63.set_ 0 _).set_ 1 _
        have hVU : Ext V U := by rw [hU]; exact ((hx.trans hy3).setCell hVg _).setCell hVg _
        have hZU : Nl U (fun b => b ≠ g6) A4 c4 z'.mag := by
          rw [hU]
          refine Nl.keep (hZ4.widen fun b hb _ => ?_) (((Kp.refl w3).setCell (fun h => h rfl) _).setCell (fun h => h rfl) _)
          have h8 : (wr.alloc (.cells #[.bool z.neg, .slice A3 z.mag.length c3, .bool p.2.neg, .slice B' p.2.mag.length d'] 24)).drew.heap.size ≤ b := hb
          omega
        clear hU b63 b63r b63l b6 b6r b6l d4 d4r d4l hx3 hy3 hy0 hzs hZ4 hs3 HGCD hZ hw0 hw1 hw2 hb hx hN2'
        have hu0 := (hVU.cells.1 _ _ hbV).trans hc0; have hu1 := (hVU.cells.1 _ _ hbV).trans hc1; have hu2 := (hVU.cells.1 _ _ hbV).trans hc2
        have hbU := Nat.lt_of_lt_of_le hbV hVU.size
        have d4 := b4.ext hVU
        have d4r := d4.rules; have d4l := d4.lt
        go_wp2_with fail
        refine (HSG.out _ hVU).mono ?_
        rintro e4 w4 ⟨rfl, hx4⟩
        have hV4 := hVU.trans hx4
        have m6 := k6.ext hx4; have hZ4 := Nl.keep hZU (Kp.of_ext hx4)
        have hu0 := (hV4.cells.1 _ _ hbV).trans hc0; have hu1 := (hV4.cells.1 _ _ hbV).trans hc1; have hu2 := (hV4.cells.1 _ _ hbV).trans hc2
        have hbU := Nat.lt_of_lt_of_le hbV hV4.size
        clear d4 d4r d4l hu0 hu1 hu2 k6 hZU
        have hu0 := (hV4.cells.1 _ _ hbV).trans hc0; have hu1 := (hV4.cells.1 _ _ hbV).trans hc1; have hu2 := (hV4.cells.1 _ _ hbV).trans hc2
        have d4 := b4.ext hV4
        have d4r := d4.rules; have d4l := d4.lt
        obtain ⟨sg, hsg⟩ : ∃ s, s = sgn p.2.v := ⟨_, rfl⟩
        rw [← hsg]
        have HSGE := Lib.hid hsg
        clear hsg HSG
        go_wp2_with fail
        refine wp_region_seq 10 [(0, true), (1, true), (2, true), (3, true), (4, true), (5, true), (6, true), (7, true), (8, true), (9, false), (10, false)] rfl (by kernel_rfl) (by intro _ _ d _ _ h; cases d <;> exact h) ?_
        (repeat (refine sq_take (v := ?_) rfl rfl ?_ ?_; rotate_left; (intro w' hx'; have hc' := hx'.cells.1; (try simp only [wcd] at hc'); go_simp; (first | done | with_reducible rfl)); (try simp only [Act.put, List.setIfInBounds_toArray, List.set_cons_zero, List.set_cons_succ])))
        (refine sq_loud rfl rfl fun K hK => ?_; go_simp)
        refine (HCM.out _ hV4.drew).mono ?_
        rintro e5 w5 ⟨rfl, hx5⟩
        have hV5 : Ext V w5 := hV4.drew.trans hx5
        have n6 := m6.drew.ext hx5; have hZ5 := Nl.keep hZ4 (show Kp (fun b => b ≠ g6) w4 w5 from fun b _ hl => hx5.block b hl)
        (refine hK _ _ (by repeat (first | with_reducible assumption | with_reducible exact Ext.refl _ | with_reducible refine Ext.drewN ?_ _ | with_reducible refine Ext.drew ?_ | with_reducible refine Ext.alloc ?_ _ | (with_reducible refine Ext.setCell ?_ ?_ _; rotate_left; (first | exact Nat.le_refl _ | (dsimp only; omega) | (simp only [wsz]; omega))) | (with_reducible refine Ext.trans ?_ (by with_reducible assumption)))) ?_; clear hK K; (try simp only [Act.put, List.setIfInBounds_toArray, List.set_cons_zero, List.set_cons_succ]))
        (refine sq_last rfl rfl fun K hK => ?_; go_simp; refine hK _ _ ?_; clear hK K)
        obtain ⟨cm, hcm⟩ : ∃ s, s = cmpI p.2.v n.d.v := ⟨_, rfl⟩
        rw [← hcm]
        have HCME := Lib.hid hcm
        clear hcm HCM hu0 hu1 hu2 d4 d4r d4l m6 hZ4
        have d4 := b4.ext hV5
        have d4r := d4.rules; have d4l := d4.lt
        clear d4 b4 hc0 hc1 hc2 hbU hbV
        rcases HKD.out with ⟨hk2, -⟩ | ⟨hk34, -, -, hran⟩
        · as_aux_lemma =>
          subst hk2
          go_wp2_with fail
          go_roundw
          case rel => exact ⟨i + 1, z', A4, c4, by omega, by go_num, HZ'.out, n6, hZ5, hV5⟩
          case measure => simp [intOf] <;> omega
        · have hr := hran _ hmem
          rw [HPV.out] at hr
          have h8 : sg = 1 := by rw [HSGE.out]; exact cmpI_gt hr.1
          have h9 : cm = -1 := by rw [HCME.out]; exact cmpI_lt hr.2
          clear HSGE HCME HKD
          subst h8
          subst h9
          rcases hk34 with hk3 | hk3
          · as_aux_lemma =>
            subst hk3
            go_wp2_with fail
            go_roundw
            case rel => exact ⟨i + 1, z', A4, c4, by omega, by go_num, HZ'.out, n6, hZ5, hV5⟩
            case measure => simp [intOf] <;> omega
          · as_aux_lemma =>
            subst hk3
            go_wp2_with fail
            go_roundw
            case rel => exact ⟨i + 1, z', A4, c4, by omega, by go_num, HZ'.out, n6, hZ5, hV5⟩
            case measure => simp [intOf] <;> omega
      · obtain rfl : i = n.t.ps.length := by omega
        have hz1 : z = cz 1 := by
          rw [hz, HPL.out, ← List.length_map (f := Prod.snd), List.take_length, HGC.out]; rfl
        subst hz1
        have b6r := b6.rules; have b6l := b6.lt
        have hcmp := fun (U : World) (hU : Ext wr U) (r : Value) (Q : Nat → Prop) (hr : Zi U Q r (cz 1)) => zcmp_c (⟨A3, c3, rfl, Nl.ext hZ hU⟩ : Zi U _ (.agg #[.bool (cz 1).neg, .slice A3 (cz 1).mag.length c3]) (cz 1)) hr
        rw [show cmpI (cz 1).v (cz 1).v = 0 from cmpI_eq rfl] at hcmp
        have HCMP := Lib.hid hcmp
        have hv1 := fun (U : World) (hU : Ext V U) => tvalid_c (htv.ext hU)
        have hv2 := fun (U : World) (hU : Ext V U) => rvalid5_c (htv.ext hU) (N := 2 * N) (by omega) HSZ.out.2
        rw [HVA.out] at hv1 hv2
        have HV1 := Lib.hid hv1; have HV2 := Lib.hid hv2
        have hpos : (0 : Int) < (n.t.ps.length : Int) := by omega
        have HOF := Lib.hid (fun (U : World) => zof_c 1 (by omega) (by omega) U)
        clear hcmp hv1 hv2 hz
        go_wp2_with fail
        refine wp_region_seq 3 [(0, true), (1, false), (2, false), (3, false)] rfl (by kernel_rfl) (by intro _ _ d _ _ h; cases d <;> exact h) ?_
        (repeat (refine sq_take (v := ?_) rfl rfl ?_ ?_; rotate_left; (intro w' hx'; have hc' := hx'.cells.1; (try simp only [wcd] at hc'); go_simp; (first | done | with_reducible rfl)); (try simp only [Act.put, List.setIfInBounds_toArray, List.set_cons_zero, List.set_cons_succ])))
        (refine sq_loud rfl rfl fun K hK => ?_; go_simp)
        refine (HOF.out _).mono ?_
        rintro e3 w3 ⟨r3, rfl, hr3, hx3⟩
        have hy3 : Ext wr w3 := (Ext.refl wr).drew.trans hx3
        (refine hK _ _ (by repeat (first | with_reducible assumption | with_reducible exact Ext.refl _ | with_reducible refine Ext.drewN ?_ _ | with_reducible refine Ext.drew ?_ | with_reducible refine Ext.alloc ?_ _ | (with_reducible refine Ext.setCell ?_ ?_ _; rotate_left; (first | exact Nat.le_refl _ | (dsimp only; omega) | (simp only [wsz]; omega))) | (with_reducible refine Ext.trans ?_ (by with_reducible assumption)))) ?_; clear hK K; (try simp only [Act.put, List.setIfInBounds_toArray, List.set_cons_zero, List.set_cons_succ]))
        (refine sq_loud rfl rfl fun K hK => ?_; go_simp)
        refine (HCMP.out _ hy3 _ _ hr3).mono ?_
        rintro e4 w4 ⟨rfl, hx4⟩
        have hy4 := hy3.trans hx4
        (refine hK _ _ (by repeat (first | with_reducible assumption | with_reducible exact Ext.refl _ | with_reducible refine Ext.drewN ?_ _ | with_reducible refine Ext.drew ?_ | with_reducible refine Ext.alloc ?_ _ | (with_reducible refine Ext.setCell ?_ ?_ _; rotate_left; (first | exact Nat.le_refl _ | (dsimp only; omega) | (simp only [wsz]; omega))) | (with_reducible refine Ext.trans ?_ (by with_reducible assumption)))) ?_; clear hK K; (try simp only [Act.put, List.setIfInBounds_toArray, List.set_cons_zero, List.set_cons_succ]))
        (refine sq_last rfl rfl fun K hK => ?_; go_simp; refine hK _ _ ?_; clear hK K)
        have hV4 := hx.trans hy4
        have m4 := b4.ext hV4
        have m4r := m4.rules; have m4l := m4.lt
        clear d4 d4r d4l b6 b6r b6l
        go_wp2_with fail
        refine (HV1.out _ hV4).mono ?_
        rintro e5 w5 ⟨rfl, hx5⟩
        have hV5 := hV4.trans hx5
        have m5 := b4.ext hV5
        clear m4 m4r m4l
        have m5r := m5.rules; have m5l := m5.lt
        go_wp2_with fail
        refine (HV2.out _ hV5).mono ?_
        rintro e6 w6 ⟨rfl, hx6⟩
        have hV6 := hV5.trans hx6
        have m6 := b4.ext hV6
        clear m5 m5r m5l
        have m6r := m6.rules; have m6l := m6.lt
        go_wp2_with fail
        (refine bodyPost_ret (v := ?_) ?_ rfl ?_; rotate_left; (simp only [results, Tryz.results3]; go_simp; (first | done | with_reducible rfl)))
        exact ⟨rfl, hE.trans hV6⟩

end Go.Proofs.YthmjgbkakjpfkaaGreatDoor
