/- riddlelaw19: pick, do. No conditions. Whether a set has an end, and its least number: plain laws. CensusDoes: what the document's answers come to, in plain words. No conditions. -/
import Derived.Test.YtpkfjbljhneenaaGreatGDoesAs
import Derived.Test.YtpkfjbljhneenaaGreatGDoesAk
namespace Go.Proofs.YtpkfjbljhneenaaGreat
open Go.RowKit Go.Shelf

def EPs (w : World) (X : Nat → Prop) (cs : List Value) (s : Ps) : Prop := ∃ g, cs = [.pointer (some ⟨g, 0, none⟩)] ∧ SetV w X g s
instance : Stab EPs := ⟨fun ⟨g, h, k⟩ kp => ⟨g, h, k.keep kp⟩, fun ⟨g, h, k⟩ kp => ⟨g, h, k.widen kp⟩, fun ⟨g, h, _⟩ => by subst h; simp [Value.oneCell']⟩
def PpY (w : World) (Y : Nat → Prop) (A : Option Addr) (l : List Ps) : Prop := ∃ b o, A = some ⟨b, o, none⟩ ∧ ∀ k, k < l.length → ∃ g, w.cell? ⟨b, o + k, none⟩ = some (.pointer (some ⟨g, 0, none⟩)) ∧ SetV w Y g (sth l k)
theorem Own.ppy {w : World} {Zp : Nat → Prop} {base : Nat} {t : TypeId} {v : Value} {l : List Ps} (h : Own 1 EPs w Zp base t v l) (h0 : 0 < l.length) : ∃ A c, v = .slice A l.length c ∧ PpY w (fun b => Zp b ∧ v.ownBlock ≠ some b) A l ∧ l.length ≤ c ∧ c ≤ maxLen := by
  obtain ⟨A, c, e, hs⟩ := Own.sl h (by omega) (X := fun _ => True) (fun _ _ => trivial); refine ⟨A, c, e, ?_, hs.1, hs.2.1⟩; obtain ⟨xs, h1, h2⟩ := h
  rcases h1.2 with ⟨_, hn⟩ | ⟨g, cap, cur, ev, hb, hg, hnc, hcm, hcs, htake⟩
  · omega
  · rw [ev] at e
    injection e with e1 e2 e3
    refine ⟨g, 0, e1.symm, fun k hk => ?_⟩; obtain ⟨q, hq, hS⟩ := h2.2 k hk
    have hxl : xs.length = l.length := by rw [h2.1, Nat.mul_one]
    have hxk : xs[k]? = some (.pointer (some ⟨q, 0, none⟩)) := by
      have := congrArg (fun z => z[0]?) hq
      simpa using this
    have hc := h1.cells (g := g) (by rw [ev]; rfl) k _ hxk; refine ⟨q, ?_, by rw [sth_eq l k hk]; exact hS⟩
    simpa [Addr.add_lit] using hc
def Mv (w : World) (X : Nat → Prop) (v : Value) (m : Mk) : Prop := ∃ A c B d, v = .agg #[.int .i64 m.kind, .int .i64 m.a, .int .i64 m.b, .bool m.k.neg, .slice A m.k.mag.length c, .bool m.d.neg, .slice B m.d.mag.length d] ∧ Nl w X A c m.k.mag ∧ Nl w X B d m.d.mag

set_option maxHeartbeats 800000 in
theorem pick18_c (c : Int) (hc : i64 c) (n : Nat) (h0 : 0 < n) (hn : n ≤ 4611686018427387904) (w : World) :
    Calls Tryz.prog 29 #[.int .i64 c, .int .i64 (n : Nat)] w fun e w' => e = .returned (.int .i64 (pickN c n : Nat)) ∧ Ext w w' := by
  obtain ⟨h1, h2⟩ := hc
  have HV : Hid (((pickN c n : Nat) : Int) = (if c < 0 then -(c + 1) else c) % (n : Int)) := Lib.hid (by
    unfold pickN; rw [Int.natCast_emod]
    congr 1
    split <;> omega)
  obtain ⟨r, hr⟩ : ∃ r, r = ((pickN c n : Nat) : Int) := ⟨_, rfl⟩; rw [← hr] at HV ⊢; clear hr
  by_cases hneg : c < 0
  · have hR : Hid (r = -(Int.tmod (c + 1) (n : Int))) := Lib.hid (by
      rw [HV.out, if_pos hneg, ← Int.neg_tmod, Int.tmod_eq_emod_of_nonneg (by omega)])
    clear HV
    go_enter Tryz.func29, Tryz.ntmps29
    go_wp2_with fail
    go_ret
    exact ⟨by rw [hR.out]; rfl, xt⟩
  · have hR : Hid (r = c % (n : Int)) := Lib.hid (by rw [HV.out, if_neg hneg]); clear HV
    go_enter Tryz.func29, Tryz.ntmps29
    go_wp2_with fail
    go_ret
    exact ⟨by rw [hR.out]; rfl, xt⟩

set_option maxHeartbeats 400000 in
theorem pick19_c (c : Int) (hc : i64 c) (n : Nat) (h0 : 0 < n) (hn : n ≤ 4611686018427387904) (w : World) :
    Calls Tryz.prog 7 #[.int .i64 c, .int .i64 (n : Nat)] w fun e w' => e = .returned (.int .i64 (pickN c n : Nat)) ∧ Ext w w' := by
  have hp := pick18_c c hc n h0 hn; obtain ⟨r, hr⟩ : ∃ r, r = pickN c n := ⟨_, rfl⟩; rw [← hr] at hp ⊢; clear hr h0 hn hc
  go_enter Tryz.func7, Tryz.ntmps7
  go_wp2_with fail
  refine (hp _).mono ?_; rintro e w1 ⟨rfl, hx1⟩
  go_wp2_with fail
  go_ret
  exact ⟨rfl, hx1⟩

def DoR (P : Nat → Prop) (m : Mk) (l : List Ps) (e : Ending) (w' : World) : Prop :=
  (∃ s g, doF m l = .ok s ∧ e = .returned (.tuple #[.pointer (some ⟨g, 0, none⟩), .int .i64 0]) ∧ SetV w' P g s) ∨ (∃ x : Int, doF m l = .error x ∧ x ≠ 0 ∧ e = .returned (.tuple #[.pointer none, .int .i64 x]))

set_option maxRecDepth 100000 in
set_option maxHeartbeats 3200000 in
theorem do_c {m : Mk} {l : List Ps} {v : Value} {w : World} {X Y : Nat → Prop} {A : Option Addr} {c N j : Nat} (hm : Mv w X v m) (hl : PpY w Y A l) (hk : LOk N j l) (hj : j ≤ 12) (i1 : i64 m.kind) (i2 : i64 m.a) (i3 : i64 m.b) (l1 : m.k.mag.length ≤ 1099511627775) (l2 : m.d.mag.length ≤ 1099511627775) :
    Calls Tryz.prog 22 #[v, .slice A l.length c] w fun e w' => DoR (fun b => Y b ∨ w.heap.size ≤ b) m l e w' ∧ Ext w w' := by
  have hpow : 2 ^ j ≤ 4096 := Nat.pow_le_pow_right (by omega) hj
  have hlen := hk.len; have hpos := hk.pos
  have ia := pickN_lt m.a hpos; have ib := pickN_lt m.b hpos
  have ma := sth_mem ia; have mb := sth_mem ib
  have oa := hk.ok _ ma; have ob := hk.ok _ mb; have ca := hk.cut _ ma; have cb := hk.cut _ mb
  have k8 := pickN_lt m.kind (n := 8) (by omega); have p1 := pick18_c m.a i2 l.length hpos (by omega); have p2 := pick18_c m.b i3 l.length hpos (by omega); have p3 := pick18_c m.kind i1 8 (by omega) (by omega)
  have hD : Hid (∀ R, doF m l = R ↔ doF m l = R) := Lib.hid fun _ => Iff.rfl
  obtain ⟨b, o, rfl, hlY⟩ := hl; obtain ⟨ga, qa, sa⟩ := hlY _ ia; obtain ⟨gb, qb, sb⟩ := hlY _ ib
  have qal := World.block_lt_of_cell? _ _ qa; have qbl := World.block_lt_of_cell? _ _ qb
  have hdo : Hid (doF m l = if pickN m.kind 8 ≤ 1 then .ok (aboveP m.k.v)
      else if pickN m.kind 8 ≤ 3 then if m.d.v = 0 then .error 11 else if m.d.v.natAbs ≤ 4096 then .ok (classP m.d.v.natAbs m.k.v) else .error 180
      else if pickN m.kind 8 = 4 then .ok (restP (sth l (pickN m.a l.length)))
      else if Nat.lcm (sth l (pickN m.a l.length)).per (sth l (pickN m.b l.length)).per ≤ 4096 then
        .ok (if pickN m.kind 8 ≤ 6 then meetP (sth l (pickN m.a l.length)) (sth l (pickN m.b l.length)) else jnP (sth l (pickN m.a l.length)) (sth l (pickN m.b l.length)))
      else .error 180) := Lib.hid rfl
  obtain ⟨ka, hka⟩ : ∃ ka, ka = pickN m.a l.length := ⟨_, rfl⟩; obtain ⟨kb, hkb⟩ : ∃ kb, kb = pickN m.b l.length := ⟨_, rfl⟩; obtain ⟨kk, hkk⟩ : ∃ kk, kk = pickN m.kind 8 := ⟨_, rfl⟩; rw [← hka] at p1 qa sa oa ca ia hdo; rw [← hkb] at p2 qb sb ob cb ib hdo; rw [← hkk] at p3 k8 hdo; obtain ⟨s, hs⟩ : ∃ s, s = sth l ka := ⟨_, rfl⟩; obtain ⟨t, ht⟩ : ∃ t, t = sth l kb := ⟨_, rfl⟩; rw [← hs] at sa oa ca hdo; rw [← ht] at sb ob cb hdo; obtain ⟨n, hn⟩ : ∃ n, n = l.length := ⟨_, rfl⟩; obtain ⟨R, hR⟩ : ∃ R, R = DoR (fun b => Y b ∨ w.heap.size ≤ b) m l := ⟨_, rfl⟩; rw [← hR]; rw [← hn] at p1 p2 ia ib hlen hpos ⊢; have HR := Lib.hid hR
  have via : (ka : Int) < (n : Int) := by omega
  have vib : (kb : Int) < (n : Int) := by omega
  clear hka hkb hkk hs ht hn hR ma mb hk hD i1 i2 i3 hlY; obtain ⟨A1, c1, A2, c2, rfl, n1, n2⟩ := hm; obtain ⟨kind, za, zb, zk, zd⟩ := m; simp only at *
  go_enter Tryz.func22, Tryz.ntmps22
  go_wp2_with fail
  refine (p1 _).mono ?_; rintro e w1 ⟨rfl, hx1⟩
  (have b2 := Box.ext (g := w.heap.size) bxt hx1; have b2r := b2.rules; have b2l := b2.lt)
  have hE1 : Ext w w1 := xt; have r1 := (hE1.cells.1 b _ qal).trans qa; have r1l := Nat.lt_of_lt_of_le qal hE1.size; clear p1
  go_wp2_with fail
  refine (p2 _).mono ?_; rintro e w2 ⟨rfl, hx2⟩; have hE2 : Ext w w2 := hE1.trans hx2; have b22 := b2.ext hx2; have r2 := (hE2.cells.1 b _ qbl).trans qb; have r2l := Nat.lt_of_lt_of_le qbl hE2.size
  have b22r := b22.rules; have b22l := b22.lt
  clear p2 b2r b2l r1 r1l
  go_wp2_with fail
  refine (p3 _).mono ?_; rintro e W ⟨rfl, hx3⟩; have hEW : Ext w W := hE2.trans hx3; have b23 := b22.ext hx3
  have b23r := b23.rules; have b23l := b23.lt
  clear p3 b22r b22l r2 r2l hx1 hx2 hx3 hE1 hE2
  have h8 : kk = 0 ∨ kk = 1 ∨ kk = 2 ∨ kk = 3 ∨ kk = 4 ∨ kk = 5 ∨ kk = 6 ∨ kk = 7 := by omega
  rcases h8 with rfl | rfl | rfl | rfl | rfl | rfl | rfl | rfl
  · -- 0
    clear k8
    have hd : doF ⟨kind, za, zb, zk, zd⟩ l = .ok (aboveP zk.v) := by rw [hdo.out]; rfl
    have HDo := Lib.hid hd; clear hd hdo
    go_wp2_with fail
    refine (above_c (w := W) (⟨A1, c1, rfl, n1.ext hEW⟩ : Zi W X (.agg #[.bool zk.neg, .slice A1 zk.mag.length c1]) zk) (by omega)).mono ?_; rintro e w5 ⟨g, rfl, hS, hx5⟩
    go_wp2_with fail
    (refine bodyPost_ret (v := ?_) ?_ rfl ?_; rotate_left; (simp only [results, Tryz.results22]; go_simp; (first | done | with_reducible rfl)))
    rw [HR.out]; exact ⟨.inl ⟨_, g, HDo.out, rfl, hS.widen fun b hb _ => (by have := hEW.size; rcases hb with hb; first | exact .inr (Nat.le_trans this hb) | exact hb.imp id (Nat.le_trans this))⟩, hEW.trans hx5⟩
  · -- 1
    clear k8
    have hd : doF ⟨kind, za, zb, zk, zd⟩ l = .ok (aboveP zk.v) := by rw [hdo.out]; rfl
    have HDo := Lib.hid hd; clear hd hdo
    go_wp2_with fail
    refine (above_c (w := W) (⟨A1, c1, rfl, n1.ext hEW⟩ : Zi W X (.agg #[.bool zk.neg, .slice A1 zk.mag.length c1]) zk) (by omega)).mono ?_; rintro e w5 ⟨g, rfl, hS, hx5⟩
    go_wp2_with fail
    (refine bodyPost_ret (v := ?_) ?_ rfl ?_; rotate_left; (simp only [results, Tryz.results22]; go_simp; (first | done | with_reducible rfl)))
    rw [HR.out]; exact ⟨.inl ⟨_, g, HDo.out, rfl, hS.widen fun b hb _ => (by have := hEW.size; rcases hb with hb; first | exact .inr (Nat.le_trans this hb) | exact hb.imp id (Nat.le_trans this))⟩, hEW.trans hx5⟩
  · -- 2
    clear k8
    by_cases hz : zd.v = 0
    · have hd : doF ⟨kind, za, zb, zk, zd⟩ l = .error 11 := by rw [hdo.out]; simp [hz]
      have HDo := Lib.hid hd; have HZ := Lib.hid hz
      clear hd hdo hz
      go_wp2_with fail
      refine (class_zero_c (w := W) (⟨A2, c2, rfl, n2.ext hEW⟩ : Zi W X (.agg #[.bool zd.neg, .slice A2 zd.mag.length c2]) zd) (⟨A1, c1, rfl, n1.ext hEW⟩ : Zi W X (.agg #[.bool zk.neg, .slice A1 zk.mag.length c1]) zk) HZ.out).mono ?_; rintro e w5 ⟨rfl, hx5⟩
      go_wp2_with fail
      (refine bodyPost_ret (v := ?_) ?_ rfl ?_; rotate_left; (simp only [results, Tryz.results22]; go_simp; (first | done | with_reducible rfl)))
      rw [HR.out]; exact ⟨.inr ⟨11, HDo.out, by omega, rfl⟩, hEW.trans hx5⟩
    · by_cases hp : zd.v.natAbs ≤ 4096
      · have hd : doF ⟨kind, za, zb, zk, zd⟩ l = .ok (classP zd.v.natAbs zk.v) := by rw [hdo.out]; simp [hz, hp]
        have HDo := Lib.hid hd; have HZ := Lib.hid hz; have HP := Lib.hid hp
        clear hd hdo hz hp
        go_wp2_with fail
        refine (class_c (w := W) (⟨A2, c2, rfl, n2.ext hEW⟩ : Zi W X (.agg #[.bool zd.neg, .slice A2 zd.mag.length c2]) zd) (⟨A1, c1, rfl, n1.ext hEW⟩ : Zi W X (.agg #[.bool zk.neg, .slice A1 zk.mag.length c1]) zk) (by omega) (by omega) HZ.out HP.out).mono ?_; rintro e w5 ⟨g, rfl, hS, hx5⟩
        go_wp2_with fail
        (refine bodyPost_ret (v := ?_) ?_ rfl ?_; rotate_left; (simp only [results, Tryz.results22]; go_simp; (first | done | with_reducible rfl)))
        rw [HR.out]; exact ⟨.inl ⟨_, g, HDo.out, rfl, hS.widen fun b hb _ => (by have := hEW.size; rcases hb with hb; first | exact .inr (Nat.le_trans this hb) | exact hb.imp id (Nat.le_trans this))⟩, hEW.trans hx5⟩
      · have hd : doF ⟨kind, za, zb, zk, zd⟩ l = .error 180 := by rw [hdo.out]; simp [hz, hp]
        have HDo := Lib.hid hd; have HZ := Lib.hid hz; have HP := Lib.hid hp
        clear hd hdo hz hp
        go_wp2_with fail
        refine (class_long_c (w := W) (⟨A2, c2, rfl, n2.ext hEW⟩ : Zi W X (.agg #[.bool zd.neg, .slice A2 zd.mag.length c2]) zd) (⟨A1, c1, rfl, n1.ext hEW⟩ : Zi W X (.agg #[.bool zk.neg, .slice A1 zk.mag.length c1]) zk) (by omega) HZ.out HP.out).mono ?_; rintro e w5 ⟨rfl, hx5⟩
        go_wp2_with fail
        (refine bodyPost_ret (v := ?_) ?_ rfl ?_; rotate_left; (simp only [results, Tryz.results22]; go_simp; (first | done | with_reducible rfl)))
        rw [HR.out]; exact ⟨.inr ⟨180, HDo.out, by omega, rfl⟩, hEW.trans hx5⟩
  · -- 3
    clear k8
    by_cases hz : zd.v = 0
    · have hd : doF ⟨kind, za, zb, zk, zd⟩ l = .error 11 := by rw [hdo.out]; simp [hz]
      have HDo := Lib.hid hd; have HZ := Lib.hid hz
      clear hd hdo hz
      go_wp2_with fail
      refine (class_zero_c (w := W) (⟨A2, c2, rfl, n2.ext hEW⟩ : Zi W X (.agg #[.bool zd.neg, .slice A2 zd.mag.length c2]) zd) (⟨A1, c1, rfl, n1.ext hEW⟩ : Zi W X (.agg #[.bool zk.neg, .slice A1 zk.mag.length c1]) zk) HZ.out).mono ?_; rintro e w5 ⟨rfl, hx5⟩
      go_wp2_with fail
      (refine bodyPost_ret (v := ?_) ?_ rfl ?_; rotate_left; (simp only [results, Tryz.results22]; go_simp; (first | done | with_reducible rfl)))
      rw [HR.out]; exact ⟨.inr ⟨11, HDo.out, by omega, rfl⟩, hEW.trans hx5⟩
    · by_cases hp : zd.v.natAbs ≤ 4096
      · have hd : doF ⟨kind, za, zb, zk, zd⟩ l = .ok (classP zd.v.natAbs zk.v) := by rw [hdo.out]; simp [hz, hp]
        have HDo := Lib.hid hd; have HZ := Lib.hid hz; have HP := Lib.hid hp
        clear hd hdo hz hp
        go_wp2_with fail
        refine (class_c (w := W) (⟨A2, c2, rfl, n2.ext hEW⟩ : Zi W X (.agg #[.bool zd.neg, .slice A2 zd.mag.length c2]) zd) (⟨A1, c1, rfl, n1.ext hEW⟩ : Zi W X (.agg #[.bool zk.neg, .slice A1 zk.mag.length c1]) zk) (by omega) (by omega) HZ.out HP.out).mono ?_; rintro e w5 ⟨g, rfl, hS, hx5⟩
        go_wp2_with fail
        (refine bodyPost_ret (v := ?_) ?_ rfl ?_; rotate_left; (simp only [results, Tryz.results22]; go_simp; (first | done | with_reducible rfl)))
        rw [HR.out]; exact ⟨.inl ⟨_, g, HDo.out, rfl, hS.widen fun b hb _ => (by have := hEW.size; rcases hb with hb; first | exact .inr (Nat.le_trans this hb) | exact hb.imp id (Nat.le_trans this))⟩, hEW.trans hx5⟩
      · have hd : doF ⟨kind, za, zb, zk, zd⟩ l = .error 180 := by rw [hdo.out]; simp [hz, hp]
        have HDo := Lib.hid hd; have HZ := Lib.hid hz; have HP := Lib.hid hp
        clear hd hdo hz hp
        go_wp2_with fail
        refine (class_long_c (w := W) (⟨A2, c2, rfl, n2.ext hEW⟩ : Zi W X (.agg #[.bool zd.neg, .slice A2 zd.mag.length c2]) zd) (⟨A1, c1, rfl, n1.ext hEW⟩ : Zi W X (.agg #[.bool zk.neg, .slice A1 zk.mag.length c1]) zk) (by omega) HZ.out HP.out).mono ?_; rintro e w5 ⟨rfl, hx5⟩
        go_wp2_with fail
        (refine bodyPost_ret (v := ?_) ?_ rfl ?_; rotate_left; (simp only [results, Tryz.results22]; go_simp; (first | done | with_reducible rfl)))
        rw [HR.out]; exact ⟨.inr ⟨180, HDo.out, by omega, rfl⟩, hEW.trans hx5⟩
  · -- 4
    clear k8
    have hd : doF ⟨kind, za, zb, zk, zd⟩ l = .ok (restP s) := by rw [hdo.out]; rfl
    have HDo := Lib.hid hd; clear hd hdo
    go_wp2_with fail
    refine (rest_c (sa.ext hEW) oa).mono ?_; rintro e w5 ⟨g, rfl, hS, hx5⟩
    go_wp2_with fail
    (refine bodyPost_ret (v := ?_) ?_ rfl ?_; rotate_left; (simp only [results, Tryz.results22]; go_simp; (first | done | with_reducible rfl)))
    rw [HR.out]; exact ⟨.inl ⟨_, g, HDo.out, rfl, hS.widen fun b hb _ => (by have := hEW.size; rcases hb with hb; first | exact .inr (Nat.le_trans this hb) | exact hb.imp id (Nat.le_trans this))⟩, hEW.trans hx5⟩
  · -- 5
    clear k8
    by_cases hq : Nat.lcm s.per t.per ≤ 4096
    · have hd : doF ⟨kind, za, zb, zk, zd⟩ l = .ok (meetP s t) := by rw [hdo.out]; simp [hq]
      have HDo := Lib.hid hd; have HQ := Lib.hid hq
      clear hd hdo hq
      go_wp2_with fail
      refine (meet_c (sa.ext hEW) (sb.ext hEW) oa ob HQ.out).mono ?_; rintro e w5 ⟨g, lm, hM, rfl, hS, hx5⟩
      go_wp2_with fail
      (refine bodyPost_ret (v := ?_) ?_ rfl ?_; rotate_left; (simp only [results, Tryz.results22]; go_simp; (first | done | with_reducible rfl)))
      rw [HR.out]; rw [mrg_eq oa ob hM] at hS; exact ⟨.inl ⟨_, g, HDo.out, rfl, hS.widen fun b hb _ => (by have := hEW.size; rcases hb with hb | hb | hb; exact .inl hb; exact .inl hb; exact .inr (Nat.le_trans this hb))⟩, hEW.trans hx5⟩
    · have hd : doF ⟨kind, za, zb, zk, zd⟩ l = .error 180 := by rw [hdo.out]; simp [hq]
      have HDo := Lib.hid hd; have HQ := Lib.hid hq
      clear hd hdo hq
      go_wp2_with fail
      refine (meet_no_c (sa.ext hEW) (sb.ext hEW) oa ob HQ.out).mono ?_; rintro e w5 ⟨rfl, hx5⟩
      go_wp2_with fail
      (refine bodyPost_ret (v := ?_) ?_ rfl ?_; rotate_left; (simp only [results, Tryz.results22]; go_simp; (first | done | with_reducible rfl)))
      rw [HR.out]; exact ⟨.inr ⟨180, HDo.out, by omega, rfl⟩, hEW.trans hx5⟩
  · -- 6
    clear k8
    by_cases hq : Nat.lcm s.per t.per ≤ 4096
    · have hd : doF ⟨kind, za, zb, zk, zd⟩ l = .ok (meetP s t) := by rw [hdo.out]; simp [hq]
      have HDo := Lib.hid hd; have HQ := Lib.hid hq
      clear hd hdo hq
      go_wp2_with fail
      refine (meet_c (sa.ext hEW) (sb.ext hEW) oa ob HQ.out).mono ?_; rintro e w5 ⟨g, lm, hM, rfl, hS, hx5⟩
      go_wp2_with fail
      (refine bodyPost_ret (v := ?_) ?_ rfl ?_; rotate_left; (simp only [results, Tryz.results22]; go_simp; (first | done | with_reducible rfl)))
      rw [HR.out]; rw [mrg_eq oa ob hM] at hS; exact ⟨.inl ⟨_, g, HDo.out, rfl, hS.widen fun b hb _ => (by have := hEW.size; rcases hb with hb | hb | hb; exact .inl hb; exact .inl hb; exact .inr (Nat.le_trans this hb))⟩, hEW.trans hx5⟩
    · have hd : doF ⟨kind, za, zb, zk, zd⟩ l = .error 180 := by rw [hdo.out]; simp [hq]
      have HDo := Lib.hid hd; have HQ := Lib.hid hq
      clear hd hdo hq
      go_wp2_with fail
      refine (meet_no_c (sa.ext hEW) (sb.ext hEW) oa ob HQ.out).mono ?_; rintro e w5 ⟨rfl, hx5⟩
      go_wp2_with fail
      (refine bodyPost_ret (v := ?_) ?_ rfl ?_; rotate_left; (simp only [results, Tryz.results22]; go_simp; (first | done | with_reducible rfl)))
      rw [HR.out]; exact ⟨.inr ⟨180, HDo.out, by omega, rfl⟩, hEW.trans hx5⟩
  · -- 7
    clear k8
    by_cases hq : Nat.lcm s.per t.per ≤ 4096
    · have hd : doF ⟨kind, za, zb, zk, zd⟩ l = .ok (jnP s t) := by rw [hdo.out]; simp [hq]
      have HDo := Lib.hid hd; have HQ := Lib.hid hq
      clear hd hdo hq
      go_wp2_with fail
      refine (join_c (sa.ext hEW) (sb.ext hEW) oa ob HQ.out).mono ?_; rintro e w5 ⟨g, lm, hM, rfl, hS, hx5⟩
      go_wp2_with fail
      (refine bodyPost_ret (v := ?_) ?_ rfl ?_; rotate_left; (simp only [results, Tryz.results22]; go_simp; (first | done | with_reducible rfl)))
      rw [HR.out]; rw [mrg_eq oa ob hM] at hS; exact ⟨.inl ⟨_, g, HDo.out, rfl, hS.widen fun b hb _ => (by have := hEW.size; rcases hb with hb | hb | hb; exact .inl hb; exact .inl hb; exact .inr (Nat.le_trans this hb))⟩, hEW.trans hx5⟩
    · have hd : doF ⟨kind, za, zb, zk, zd⟩ l = .error 180 := by rw [hdo.out]; simp [hq]
      have HDo := Lib.hid hd; have HQ := Lib.hid hq
      clear hd hdo hq
      go_wp2_with fail
      refine (join_no_c (sa.ext hEW) (sb.ext hEW) oa ob HQ.out).mono ?_; rintro e w5 ⟨rfl, hx5⟩
      go_wp2_with fail
      (refine bodyPost_ret (v := ?_) ?_ rfl ?_; rotate_left; (simp only [results, Tryz.results22]; go_simp; (first | done | with_reducible rfl)))
      rw [HR.out]; exact ⟨.inr ⟨180, HDo.out, by omega, rfl⟩, hEW.trans hx5⟩

def EM (w : World) (X : Nat → Prop) (cs : List Value) (m : Mk) : Prop := ∃ A c B d, cs = [.int .i64 m.kind, .int .i64 m.a, .int .i64 m.b, .bool m.k.neg, .slice A m.k.mag.length c, .bool m.d.neg, .slice B m.d.mag.length d] ∧ Nl w X A c m.k.mag ∧ Nl w X B d m.d.mag
instance : Stab EM := ⟨fun ⟨A, c, B, d, h, k, k2⟩ kp => ⟨A, c, B, d, h, k.keep kp, k2.keep kp⟩, fun ⟨A, c, B, d, h, k, k2⟩ kp => ⟨A, c, B, d, h, k.widen kp, k2.widen kp⟩, fun ⟨A, c, B, d, h, _, _⟩ => by subst h; simp [Value.oneCell']⟩
abbrev Ms (w : World) (X : Nat → Prop) (A : Option Addr) (c : Nat) (l : List Mk) : Prop := Sl 7 EM w X A c l
theorem Ms.at_ {w : World} {X : Nat → Prop} {A : Option Addr} {c : Nat} {l : List Mk} (h : Ms w X A c l) {k : Nat} (hk : k < l.length) :
    ∃ b o B d B' d', A = some ⟨b, o, none⟩ ∧ X b ∧ w.cell? ⟨b, o + k * 7, none⟩ = some (.int .i64 l[k].kind) ∧ w.cell? ⟨b, o + k * 7 + 1, none⟩ = some (.int .i64 l[k].a) ∧ w.cell? ⟨b, o + k * 7 + 2, none⟩ = some (.int .i64 l[k].b) ∧
      w.cell? ⟨b, o + k * 7 + 3, none⟩ = some (.bool l[k].k.neg) ∧ w.cell? ⟨b, o + k * 7 + 4, none⟩ = some (.slice B l[k].k.mag.length d) ∧ w.cell? ⟨b, o + k * 7 + 5, none⟩ = some (.bool l[k].d.neg) ∧ w.cell? ⟨b, o + k * 7 + 6, none⟩ = some (.slice B' l[k].d.mag.length d') ∧
      Nl w X B d l[k].k.mag ∧ Nl w X B' d' l[k].d.mag := by
  obtain ⟨b, o, hA, hX, hi⟩ := h.2.2.1 (by omega); obtain ⟨cs, _, hc, B, d, B', d', rfl, h1, h2⟩ := hi k hk; exact ⟨b, o, B, d, B', d', hA, hX, hc 0 (by simp), hc 1 (by simp), hc 2 (by simp), hc 3 (by simp), hc 4 (by simp), hc 5 (by simp), hc 6 (by simp), h1, h2⟩
def Mk.sz (m : Mk) (N : Nat) : Prop := i64 m.kind ∧ i64 m.a ∧ i64 m.b ∧ m.k.mag.length ≤ N ∧ m.d.mag.length ≤ N

theorem wpList_appp1 {w : World} {ops : Array Oper} {rest : List Oper} {o : Oper} {a : Act} {Q : Exit → Act → World → Prop} (s x : Operand) {Zp : Nat → Prop} {base : Nat} {v : Value} {l : List Ps} {r : Ps} {g : Nat}
    (h : Own 1 EPs w Zp base 33 v l) (hN : SetV w (fun b => Zp b ∧ v.ownBlock ≠ some b) g r) (hl : l.length ≤ 2199023255552) (hbase : base ≤ w.heap.size)
    (hgd : o.guard = none) (ho : o.op = .call { callee := .builtin .append, args := #[s, x], argTypes := #[28, 28] }) (hs : a.eval s = v) (hx : a.eval x = .slice (some ⟨w.heap.size, 0, none⟩) 1 1)
    (H : ∀ v' w', Own 1 EPs w' Zp base 33 v' (l ++ [r]) → (w.alloc (.cells #[.pointer (some ⟨g, 0, none⟩)] 33)).grownBy w' v.ownBlock →
      (v'.ownBlock = v.ownBlock ∨ v'.ownBlock = some (w.heap.size + 1)) → wpList Tryz.prog ops Q rest (a.put o.dst v') w') :
    wpList Tryz.prog ops Q (o :: rest) a (w.alloc (.cells #[.pointer (some ⟨g, 0, none⟩)] 33)) := by
  have ety : Ety Tryz.prog 28 33 1 8 (.pointer none) := ⟨Tryz.underlying28, by kernel_rfl, by simp [Value.cells], by omega⟩
  refine wpList_app (m := [r]) ety s x (Own.ext h ((Ext.refl w).alloc _)) (Fl.one (cs := [.pointer (some ⟨g, 0, none⟩)]) ⟨g, rfl, hN.keep ((Kp.refl w).alloc _)⟩ rfl) (fun _ => ⟨_, _, rfl, fun j u hu => ?_⟩) ?_ ?_ ?_ hgd ho hs hx fun v' w' h1 h2 h3 => H v' w' h1 h2 (by simpa using h3)
  · rw [World.cell?_alloc_at (hn := rfl)]
    match j, hu with
    | 0, hu => simpa using hu
  · simp only [List.length_cons, List.length_nil]; omega
  · simp only [List.length_cons, List.length_nil, maxLen]; omega
  · simp only [World.size_alloc]; omega

theorem Own.onep {w : World} {Zp : Nat → Prop} {base : Nat} {t : TypeId} {g : Nat} {s : Ps} (hb : base ≤ w.heap.size) (h : SetV w (fun b => Zp b ∧ b ≠ w.heap.size) g s) :
    Own 1 EPs (w.alloc (.cells #[.pointer (some ⟨g, 0, none⟩)] t)) Zp base t (.slice (some ⟨w.heap.size, 0, none⟩) 1 1) [s] := by
  refine ⟨[.pointer (some ⟨g, 0, none⟩)], ⟨by simp, .inr ⟨w.heap.size, 1, #[.pointer (some ⟨g, 0, none⟩)], rfl, hb, heap_alloc_new w _, by simp, by simp [maxLen], by simp, by simp⟩⟩, Fl.one ⟨g, rfl, ?_⟩ rfl⟩
  exact (h.keep ((Kp.refl w).alloc _)).widen fun b hb _ => ⟨hb.1, fun e => hb.2 (by injection e with e; exact e.symm)⟩
def bk (ms : List Mk) (k : Nat) : List Ps := (ms.take k).foldl addF [noneP]

set_option maxRecDepth 100000 in
set_option maxHeartbeats 3200000 in
theorem sets_c {ms : List Mk} {w : World} {X : Nat → Prop} {A : Option Addr} {c N : Nat} (hm : Ms w X A c ms) (hN : 2 ≤ N) (hN2 : N ≤ 4294967296) (hsz : ∀ m ∈ ms, m.sz N) :
    Calls Tryz.prog 4 #[.slice A ms.length c] w fun e w' => ∃ r, e = .returned r ∧ Own 1 EPs w' (w.heap.size ≤ ·) w.heap.size 33 r (buildF ms) ∧ Ext w w' := by
  have hmm0 := hm
  have hmm := hm.2.1; have hmc := hm.1
  simp only [maxLen] at hmm
  have hbk := fun (k : Nat) (h1 : k ≤ ms.length) (h2 : k ≤ 12) => buildK_ok (ms := ms) (N := N + 1) (fun m hm => by
    have h4 : zl (m.k.v) ≤ N := by
      obtain ⟨i, hi, rfl⟩ := List.getElem_of_mem hm; obtain ⟨_, _, _, _, _, _, _, _, _, _, _, _, _, _, _, hn, _⟩ := Ms.at_ hmm0 hi; exact Nat.le_trans (zl_of hn.lt) (hsz _ hm).2.2.2.1
    exact zl_add h4 (Nat.le_trans (show zl 1 ≤ 1 by decide) (by omega))) h1 h2
  go_enter Tryz.func4, Tryz.ntmps4
  have HBK := Lib.hid hbk; clear hbk
  go_wp2_with fail
  refine (none_c w).mono ?_; rintro e w1 ⟨g0, rfl, hS0, hx1⟩
  go_wp2_with fail
  have hO0 := Own.onep (w := w1) (Zp := (w.heap.size ≤ ·)) (base := w.heap.size) (t := 33) hx1.size (hS0.widen fun b hb hl => ⟨hb, by omega⟩); have hE0 : Ext w (w1.alloc (.cells #[.pointer (some ⟨g0, 0, none⟩)] 33)) := hx1.alloc _
  have hbk : ∀ k (h : k < ms.length), bk ms (k + 1) = addF (bk ms k) ms[k] := fun k h => buildF_step h
  have HB := Lib.hid hbk; have hpk : ∀ k, k ≤ ms.length → k ≤ 12 → LOk (N + 1) k (bk ms k) := HBK.out; have HP := Lib.hid hpk; clear hS0 hx1 hbk hpk HBK hmm0
  go_loopw [3, 4] (fun lv iv wr => ∃ k : Nat, k ≤ ms.length ∧ k ≤ 12 ∧ iv = .int .i64 k ∧ Own 1 EPs wr (w.heap.size ≤ ·) w.heap.size 33 lv (bk ms k) ∧ Ext w wr) (fun _ iv _ => ms.length - (intOf iv).toNat)
  case atStart => exact ⟨0, Nat.zero_le _, by omega, rfl, hO0, hE0⟩
  case round =>
    obtain ⟨k, hk, hk12, rfl, hO, hx⟩ := hrel; have hlo := HP.out k hk hk12
    have hlen := hlo.len; have hpos := hlo.pos
    have hown := hO.row; obtain ⟨AL, cL, rfl, hpy, hlc, hlcm⟩ := Own.ppy hO hpos; simp only [maxLen] at hlcm; have hpy' := hpy; obtain ⟨b, o, rfl, hat⟩ := hpy; obtain ⟨n, hn⟩ : ∃ n, n = (bk ms k).length := ⟨_, rfl⟩; rw [← hn] at hlen hpos hat hlc hO hown ⊢; obtain ⟨gl, ql, _⟩ := hat (n - 1) (by omega); have qll := World.block_lt_of_cell? _ _ ql; have HN := Lib.hid hn; have HLO := Lib.hid hlo; clear hat hlo; obtain ⟨j, hj⟩ : ∃ j, j = n - 1 := ⟨_, rfl⟩; rw [← hj] at ql
    have jn : IntKind.i64.wrap ((n : Int) - 1) = (j : Int) := by rw [w64 (n := (n : Int) - 1) ⟨by omega, by omega⟩]; omega
    have jl : (j : Int) < (n : Int) := by omega
    clear hj hn
    by_cases hgo : k < ms.length ∧ k < 12
    · obtain ⟨h1, h2⟩ := hgo; obtain ⟨bm, om, B, d, B', d', rfl, hXm, m0, m1, m2, m3, m4, m5, m6, hn1, hn2⟩ := Ms.at_ (Sl.keep hm (.of_ext hx)) h1; have ml := World.block_lt_of_cell? _ _ m0
      have kl : (k : Int) < (ms.length : Int) := by omega
      have k12 : (k : Int) < 12 := by omega
      have hsk := hsz _ (List.getElem_mem h1); have hbs := HB.out k h1; obtain ⟨m, hme⟩ : ∃ m, m = ms[k] := ⟨_, rfl⟩; rw [← hme] at m0 m1 m2 m3 m4 m5 m6 hn1 hn2 hsk hbs
      have hdo := fun (U : World) (hU : Ext wr U) => do_c (m := m) (w := U) (X := X) (c := cL) ⟨B, d, B', d', rfl, hn1.ext hU, hn2.ext hU⟩ (l := bk ms k) (Y := fun b' => w.heap.size ≤ b' ∧ (Value.slice (some ⟨b, o, none⟩) (bk ms k).length cL).ownBlock ≠ some b') (A := some ⟨b, o, none⟩) (by
        obtain ⟨b1, o1, e1, h3⟩ := hpy'; refine ⟨b1, o1, e1, fun i hi => ?_⟩; obtain ⟨gi, q1, q2⟩ := h3 i hi
        exact ⟨gi, (hU.cells.1 b1 _ (World.block_lt_of_cell? _ _ q1)).trans q1, q2.ext hU⟩) HLO.out hk12 hsk.1 hsk.2.1 hsk.2.2.1 (by have := hsk.2.2.2.1; omega) (by have := hsk.2.2.2.2; omega)
      rw [← HN.out] at hdo; have hown' := hown
      have HDo := Lib.hid hdo; have HBS := Lib.hid hbs
      clear hpy' hn1 hn2 hme hsk hdo hbs; obtain ⟨kind, za, zb, zk, zd⟩ := m; simp only at m0 m1 m2 m3 m4 m5 m6
      go_wp2_with fail
      refine (HDo.out _ (Ext.refl _)).mono ?_; rintro e w5 ⟨hR, hx5⟩
      rcases hR with ⟨s, g, hd, rfl, hS⟩ | ⟨x, hd, hx0, rfl⟩
      · have hL : bk ms (k + 1) = bk ms k ++ [s] := by rw [HBS.out]; unfold addF; rw [hd]
        have HL := Lib.hid hL; have hO5 := hO.ext hx5; have hlen' := Lib.hid (show (bk ms k).length ≤ 2199023255552 by rw [← HN.out]; omega)
        have hSW : SetV w5 (fun b' => w.heap.size ≤ b' ∧ (Value.slice (some ⟨b, o, none⟩) n cL).ownBlock ≠ some b') g s := hS.widen fun b' hb _ => by
          rcases hb with hb | hb
          · exact hb
          · exact ⟨Nat.le_trans hx.size hb, fun e => by have := (hown' b' e).2; omega⟩
        have hs5 := hx5.size; have hsx := hx.size
        clear hL hd hS
        go_wp2_with (first
          | (at_builtin
             (refine wpList_appp1 (.tmp 37) (.tmp 39) hO5 hSW hlen'.out (by omega) rfl rfl rfl rfl ?_)
             intro v6 w6 hO6 hg6 hv6)
          | fail)
        have hE6 : Ext w w6 := ((hx.trans hx5).alloc _).grown hg6 (fun q hq => (hown' q hq).1)
        go_roundw
        case rel => exact ⟨k + 1, by omega, by omega, by go_num, by rw [HL.out]; exact hO6, hE6⟩
        case measure => simp [intOf] <;> omega
      · have hL : bk ms (k + 1) = bk ms k := by rw [HBS.out]; unfold addF; rw [hd]
        have HL := Lib.hid hL
        have hxb : (x == 0) = false := by rw [beq_eq_false_iff_ne]; exact hx0
        clear hL hd hx0
        go_wp2_with fail
        go_roundw
        case rel => exact ⟨k + 1, by omega, by omega, by go_num, by rw [HL.out]; exact hO.ext hx5, hx.trans hx5⟩
        case measure => simp [intOf] <;> omega
    · have hb : buildF ms = bk ms k := by
        unfold buildF bk
        by_cases h : k = 12
        · rw [h]
        · have h2 : k = ms.length := by omega
          rw [List.take_of_length_le (by omega), List.take_of_length_le (by omega)]
      have HBF := Lib.hid hb
      have hcond : ¬ (k : Int) < (ms.length : Int) ∨ ((k : Int) < (ms.length : Int) ∧ ¬ (k : Int) < 12) := by omega
      clear hb hgo
      rcases hcond with h1 | ⟨h1, h2⟩
      · go_wp2_with fail
        go_ret
        exact ⟨_, rfl, by rw [HBF.out]; exact hO, hx⟩
      · go_wp2_with fail
        go_ret
        exact ⟨_, rfl, by rw [HBF.out]; exact hO, hx⟩

end Go.Proofs.YtpkfjbljhneenaaGreat

namespace Go.Proofs.YtpkfjbljhneenaaGreat
open Go.RowKit Go.Shelf

def lowV (s : Ps) : Bool := if s.cuts.length = 0 then (nxtV s (cz 0)).isSome else (lstV s (cz ((zth s.cuts 0).v + -1))).isSome
def highV (s : Ps) : Bool := if s.cuts.length = 0 then (nxtV s (cz 0)).isSome else (nxtV s (zth s.cuts (s.cuts.length - 1))).isSome
def finV (s : Ps) : Option Int := if lowV s || highV s then none else if s.cuts.length = 0 then some 0 else some (cntV s (zth s.cuts 0) (zth s.cuts (s.cuts.length - 1)).v)
def lstE (s : Ps) : Option Int := if lowV s || decide (s.cuts.length = 0) then none else nxtV s (zth s.cuts 0)
end Go.Proofs.YtpkfjbljhneenaaGreat

namespace Go.Proofs.YtpkfjbljhneenaaGreat
open Go.RowKit

theorem lcm_go {p q k : Nat} (hp : 0 < p) (hk : 0 < k) (h : p * k ≤ Nat.lcm p q) : (p * k % q = 0 → p * k = Nat.lcm p q) ∧ (p * k % q ≠ 0 → p * (k + 1) ≤ Nat.lcm p q) := by
 obtain ⟨j, hj⟩ := Nat.dvd_lcm_left p q
 constructor
 ·intro h0; have h1 : Nat.lcm p q ∣ p * k := Nat.lcm_dvd (Nat.dvd_mul_right p k) (Nat.dvd_of_mod_eq_zero h0); exact Nat.le_antisymm h (Nat.le_of_dvd (Nat.mul_pos hp hk) h1)
 ·intro h0
  have hne : p * k ≠ Nat.lcm p q := fun e => h0 (by rw [e]; exact Nat.mod_eq_zero_of_dvd (Nat.dvd_lcm_right p q))
  rw [hj] at h hne ⊢
  have h2 : k < j := by
   rcases Nat.lt_or_ge k j with h3 | h3
   ·exact h3
   ·exact absurd (Nat.le_antisymm h (Nat.mul_le_mul_left p h3)) hne
  exact Nat.mul_le_mul_left p h2

theorem plc_len (l : List Int) (x : Int) : plc l x ≤ l.length := lbd_le _ _
theorem plc_step {l : List Int} (hr : Ris l) (x : Int) {i : Nat} (hi : i < l.length) : plc (l.take (i + 1)) x = if l[i] ≤ x then i + 1 else plc (l.take i) x := by
 rw [List.take_succ_eq_append_getElem hi]; unfold plc
 split
 ·rename_i h
  rw [lbd_all fun c hc => ?_]
  ·simp; omega
  ·rcases List.mem_append.1 hc with hc | hc
   ·obtain ⟨j, hj, rfl⟩ := List.getElem_of_mem hc; rw [List.length_take] at hj; rw [List.getElem_take]; have := hr.lt (i := j) (j := i) (by omega) hi (by omega)
    omega
   ·simp only [List.mem_singleton] at hc; omega
 ·exact lbd_snoc_gt (by omega)
theorem plc_cut {l : List Int} (hr : Ris l) {i : Nat} (hi : i < l.length) : plc l l[i] = i + 1 := by
 refine lbd_eq (by omega) (fun j hj hji => ?_) fun j hj hij => ?_
 ·rcases Nat.lt_or_ge j i with h | h
  ·have := hr.lt hj hi h; omega
  ·have : j = i := by omega
   subst this; omega
 ·have := hr.lt hi hj (by omega); omega
theorem plc_cut1 {l : List Int} (hr : Ris l) {i : Nat} (hi : i < l.length) : plc l (l[i] - 1) = i := by
 refine lbd_eq (by omega) (fun j hj hji => ?_) fun j hj hij => ?_
 ·have := hr.lt hj hi hji; omega
 ·rcases Nat.lt_or_ge i j with h | h
  ·have := hr.lt hi hj h; omega
  ·have : j = i := by omega
   subst this; omega
theorem plc_next {l : List Int} (hr : Ris l) (a : Int) : (∀ h : plc l a < l.length, a < l[plc l a] ∧ Fre l a (l[plc l a] - 1)) ∧ (plc l a = l.length → ∀ z, Fre l a z) := by
 have key : ∀ j (hj : j < l.length), a < l[j] → plc l a ≤ j := fun j hj h => by
  rcases Nat.lt_or_ge j (plc l a) with h1 | h1
  ·have := lbd_below (x := a + 1) hj h1; omega
  ·exact h1
 constructor
 ·intro h; have h1 := lbd_above (x := a + 1) hr h (Nat.le_refl _); refine ⟨by have : a + 1 ≤ l[plc l a] := h1; omega, fun c hc ⟨h2, h3⟩ => ?_⟩; obtain ⟨j, hj, rfl⟩ := List.getElem_of_mem hc; have h4 := key j hj h2
  rcases Nat.lt_or_ge (plc l a) j with h5 | h5
  ·have := hr.lt h hj h5; omega
  ·have : j = plc l a := by omega
   subst this; omega
 ·intro h z c hc ⟨h2, _⟩; obtain ⟨j, hj, rfl⟩ := List.getElem_of_mem hc
  have := key j hj h2; omega
theorem plc_prev {l : List Int} (hr : Ris l) (a : Int) : (∀ h : plc l a - 1 < l.length, 0 < plc l a → l[plc l a - 1] ≤ a ∧ Fre l (l[plc l a - 1]) a) ∧ (plc l a = 0 → ∀ z, Fre l z a) := by
 have key : ∀ j (hj : j < l.length), l[j] ≤ a → j < plc l a := fun j hj h => by
  rcases Nat.lt_or_ge j (plc l a) with h1 | h1
  ·exact h1
  ·have := lbd_above (x := a + 1) hr hj h1; omega
 constructor
 ·intro h h0; have h1 := lbd_below (x := a + 1) h (show plc l a - 1 < plc l a by omega); refine ⟨by have : l[plc l a - 1] < a + 1 := h1; omega, fun c hc ⟨h2, h3⟩ => ?_⟩; obtain ⟨j, hj, rfl⟩ := List.getElem_of_mem hc; have h4 := key j hj h3
  rcases Nat.lt_or_ge j (plc l a - 1) with h5 | h5
  ·have := hr.lt hj h h5; omega
  ·have : j = plc l a - 1 := by omega
   subst this; omega
 ·intro h z c hc ⟨_, h3⟩; obtain ⟨j, hj, rfl⟩ := List.getElem_of_mem hc
  have := key j hj h3; omega

theorem mg_nil (a : List Z) : mg a [] = a := by cases a <;> (unfold mg; rfl)
theorem mg_b {a b : List Z} {i k : Nat} (hi : i = a.length) (hk : k < b.length) : mg (a.drop i) (b.drop k) = b[k] :: mg (a.drop i) (b.drop (k + 1)) := by
 rw [hi, List.drop_length, List.drop_eq_getElem_cons hk]
 unfold mg; rfl
theorem mg_a {a b : List Z} {i k : Nat} (hi : i < a.length) (hk : k = b.length) : mg (a.drop i) (b.drop k) = a[i] :: mg (a.drop (i + 1)) (b.drop k) := by
 rw [hk, List.drop_length, mg_nil, mg_nil, List.drop_eq_getElem_cons hi]
theorem mg_ab {a b : List Z} {i k : Nat} (hi : i < a.length) (hk : k < b.length) : mg (a.drop i) (b.drop k) = if (a[i]).v < (b[k]).v then a[i] :: mg (a.drop (i + 1)) (b.drop k) else if (b[k]).v < (a[i]).v then b[k] :: mg (a.drop i) (b.drop (k + 1)) else a[i] :: mg (a.drop (i + 1)) (b.drop (k + 1)) := by
 have h1 : mg (a.drop i) (b.drop k) = mg (a[i] :: a.drop (i + 1)) (b[k] :: b.drop (k + 1)) := by rw [← List.drop_eq_getElem_cons hi, ← List.drop_eq_getElem_cons hk]
 rw [h1]
 conv => lhs; unfold mg
 rw [← List.drop_eq_getElem_cons hi, ← List.drop_eq_getElem_cons hk]

theorem fill_step {α : Type} {X : List α} {d : α} {i n : Nat} (hn : n = X.length) (h : i < X.length) : (X.take i ++ List.replicate (n - i) d).set i X[i] = X.take (i + 1) ++ List.replicate (n - (i + 1)) d := by
 have h1 : (X.take i).length = i := by rw [List.length_take]; omega
 have h2 : n - i = (n - (i + 1)) + 1 := by omega
 rw [List.set_append_right _ _ (by omega), h1, Nat.sub_self, h2, List.replicate_succ, List.set_cons_zero, List.take_succ_eq_append_getElem h, List.append_assoc]
 rfl
theorem fill_at {α : Type} {X : List α} {d : α} {i n : Nat} (hn : n = X.length) (h : i < X.length) : (X.take i ++ List.replicate (n - i) d)[i]? = some d := by
 have h1 : (X.take i).length = i := by rw [List.length_take]; omega
 rw [List.getElem?_append_right (by omega), h1, Nat.sub_self, List.getElem?_replicate, if_pos (by omega)]

theorem has_row {s : Ps} {a z : Int} (haz : a ≤ z) (h : Fre (zv s.cuts) a z) : s.has z = bth (rth s.rows (plc (zv s.cuts) a)) (z % (s.per : Int)).toNat := by
 unfold Ps.has; rw [plc_same haz h]
theorem has_rowd {s : Ps} {a z : Int} (haz : z ≤ a) (h : Fre (zv s.cuts) z a) : s.has z = bth (rth s.rows (plc (zv s.cuts) a)) (z % (s.per : Int)).toNat := by
 unfold Ps.has; rw [← plc_same haz h]
def rowC (s : Ps) (a : Int) (k : Nat) : Nat := ((List.range k).filter fun i => bth (rth s.rows (plc (zv s.cuts) a)) ((a + (i : Nat)) % (s.per : Int)).toNat).length
theorem rowC_step (s : Ps) (a : Int) (k : Nat) : rowC s a (k + 1) = rowC s a k + if bth (rth s.rows (plc (zv s.cuts) a)) ((a + (k : Nat)) % (s.per : Int)).toNat then 1 else 0 := by
 rw [rowC, List.range_succ, List.filter_append, List.length_append, rowC]
 congr 1
 by_cases h : bth (rth s.rows (plc (zv s.cuts) a)) ((a + (k : Nat)) % (s.per : Int)).toNat <;> simp [h]
theorem rowC_le (s : Ps) (a : Int) (k : Nat) : rowC s a k ≤ k := by
 have := List.length_filter_le (fun i => bth (rth s.rows (plc (zv s.cuts) a)) ((a + (i : Nat)) % (s.per : Int)).toNat) (List.range k)
 simpa [rowC] using this
theorem rowC_nin {s : Ps} {a : Int} {k m : Nat} (h : Fre (zv s.cuts) a (a + (m : Nat) - 1)) (hk : k ≤ m) : rowC s a k = nin s a k := by
 unfold rowC nin
 congr 1
 apply List.filter_congr
 intro i hi; have hi := List.mem_range.1 hi; rw [has_row (by omega) (h.mono (Int.le_refl _) (by omega))]
def partR (s : Ps) (a n : Int) : Int := n / (s.per : Int) * (rowC s a s.per : Nat) + (rowC s a (n % (s.per : Int)).toNat : Nat)
theorem partR_nin {s : Ps} {a : Int} {m : Nat} (h : Fre (zv s.cuts) a (a + (m : Nat) - 1)) : partR s a (m : Nat) = (nin s a m : Nat) := by
 rw [← part_nin h]; unfold partR partV
 have e : ((m : Nat) : Int) % (s.per : Int) = ((m % s.per : Nat) : Int) := by simp
 rw [rowC_nin h (show (((m : Nat) : Int) % (s.per : Int)).toNat ≤ m by rw [e]; exact Nat.mod_le _ _)]
 congr 1
 rcases Nat.lt_or_ge m s.per with h1 | h1
 ·rw [Int.ediv_eq_zero_of_lt (by omega) (by omega)]; simp
 ·rw [rowC_nin h h1]

def stopR (s : Ps) (a e : Int) : Int := if plc (zv s.cuts) a < s.cuts.length ∧ (zth s.cuts (plc (zv s.cuts) a)).v < e then (zth s.cuts (plc (zv s.cuts) a)).v else e
theorem stop_ok {s : Ps} {N : Nat} (hs : s.ok N) {a e : Int} (h : a < e) : a < stopR s a e ∧ stopR s a e ≤ e ∧ Fre (zv s.cuts) a (stopR s a e - 1) := by
 obtain ⟨h1, h2⟩ := plc_next hs.ris a; unfold stopR; have hl := zv_len s.cuts
 by_cases hlt : plc (zv s.cuts) a < s.cuts.length
 ·obtain ⟨h3, h4⟩ := h1 (by omega); rw [zv_at s.cuts _ hlt] at h3 h4
  split
  ·rename_i h5
   exact ⟨h3, by omega, h4⟩
  ·rename_i h5
   exact ⟨h, Int.le_refl _, h4.mono (Int.le_refl _) (by omega)⟩
 ·rw [if_neg fun h => hlt h.1]; exact ⟨h, Int.le_refl _, h2 (by have := plc_len (zv s.cuts) a; omega) _⟩
theorem nin_join (s : Ps) {a b c : Int} (h : a ≤ b) (h' : b ≤ c) : nin s a (b - a).toNat + nin s b (c - b).toNat = nin s a (c - a).toNat := by
 have e : (c - a).toNat = (b - a).toNat + (c - b).toNat := by omega
 rw [e, nin_add]
 congr 2
 omega
theorem count_step {s : Ps} {N : Nat} (hs : s.ok N) {lo a e : Int} (h0 : lo ≤ a) (h : a < e) : (nin s lo (a - lo).toNat : Int) + partR s a (stopR s a e - a) = (nin s lo (stopR s a e - lo).toNat : Nat) := by
 obtain ⟨h1, h2, h3⟩ := stop_ok hs h
 have e1 : stopR s a e - a = ((stopR s a e - a).toNat : Nat) := by omega
 rw [e1, partR_nin (h3.mono (Int.le_refl _) (by omega)), ← nin_join s h0 (Int.le_of_lt h1)]
 omega

theorem nxt_is {s : Ps} {N : Nat} (hs : s.ok N) {x : Z} {y : Int} (h1 : x.v ≤ y) (h2 : s.has y = true) (h3 : ∀ z, x.v ≤ z → z < y → s.has z = false) : nxtV s x = some y := by
 cases h : nxtV s x with
 | none => have := nxt_none hs h y h1; rw [h2] at this; cases this
 | some u =>
  obtain ⟨g1, g2, g3⟩ := nxt_some hs h
  rcases Int.lt_trichotomy u y with q | q | q
  ·have := h3 u g1 q; rw [g2] at this; cases this
  ·rw [q]
  ·have := g3 y h1 q; rw [h2] at this; cases this
theorem nxt_isn {s : Ps} {N : Nat} (hs : s.ok N) {x : Z} (h : ∀ z, x.v ≤ z → s.has z = false) : nxtV s x = none := by
 cases h' : nxtV s x with
 | none => rfl
 | some u => obtain ⟨g1, g2, _⟩ := nxt_some hs h'; have := h u g1; rw [g2] at this; cases this
theorem lst_is {s : Ps} {N : Nat} (hs : s.ok N) {x : Z} {y : Int} (h1 : y ≤ x.v) (h2 : s.has y = true) (h3 : ∀ z, z ≤ x.v → y < z → s.has z = false) : lstV s x = some y := by
 cases h : lstV s x with
 | none => have := lst_none hs h y h1; rw [h2] at this; cases this
 | some u =>
  obtain ⟨g1, g2, g3⟩ := lst_some hs h
  rcases Int.lt_trichotomy u y with q | q | q
  ·have := g3 y h1 q; rw [h2] at this; cases this
  ·rw [q]
  ·have := h3 u g1 q; rw [g2] at this; cases this
theorem lst_isn {s : Ps} {N : Nat} (hs : s.ok N) {x : Z} (h : ∀ z, z ≤ x.v → s.has z = false) : lstV s x = none := by
 cases h' : lstV s x with
 | none => rfl
 | some u => obtain ⟨g1, g2, _⟩ := lst_some hs h'; have := h u g1; rw [g2] at this; cases this
theorem dead_up {s : Ps} (hp : 0 < s.per) {a : Int} (h : ∀ k : Nat, k < s.per → s.has (a + (k : Nat)) = false) {z : Int} (hz : a ≤ z) (hf : Fre (zv s.cuts) a z) : s.has z = false := by
 refine up_none hp ?_ hz hf; unfold fatK
 refine List.find?_eq_none.2 fun x hx => ?_
 obtain ⟨i, hi, rfl⟩ := List.mem_map.1 hx; rw [Int.one_mul, h i (List.mem_range.1 hi)]; simp
theorem dead_dn {s : Ps} (hp : 0 < s.per) {a : Int} (h : ∀ k : Nat, k < s.per → s.has (a - (k : Nat)) = false) {z : Int} (hz : z ≤ a) (hf : Fre (zv s.cuts) z a) : s.has z = false := by
 refine dn_none hp ?_ hz hf; unfold fatK
 refine List.find?_eq_none.2 fun x hx => ?_
 obtain ⟨i, hi, rfl⟩ := List.mem_map.1 hx
 have e : a + -1 * (i : Nat) = a - (i : Nat) := by omega
 rw [e, h i (List.mem_range.1 hi)]; simp

def emp (r : List Bool) : Bool := r.all not
theorem emp_false {r : List Bool} : emp r = false ↔ ∃ j, j < r.length ∧ bth r j = true := by
 constructor
 ·intro h
  have h1 : ¬ r.all not = true := by unfold emp at h; rw [h]; simp
  rw [List.all_eq_true] at h1; simp only [Classical.not_forall] at h1; obtain ⟨x, hx, h2⟩ := h1; obtain ⟨j, hj, rfl⟩ := List.getElem_of_mem hx; exact ⟨j, hj, by rw [bth_eq _ _ hj]; simpa using h2⟩
 ·rintro ⟨j, hj, h⟩; rw [bth_eq _ _ hj] at h
  cases he : emp r with
  | false => rfl
  | true =>
   have := List.all_eq_true.1 he _ (List.getElem_mem hj)
   rw [h] at this; cases this
theorem mod_in {s : Ps} {N : Nat} (hs : s.ok N) (z : Int) : (z % (s.per : Int)).toNat < s.per := by
 have h0 := hs.per0; have h1 := Int.emod_nonneg z (show (s.per : Int) ≠ 0 by omega); have h2 := Int.emod_lt_of_pos z (show (0 : Int) < (s.per : Int) by omega)
 omega
theorem row_len {s : Ps} {N : Nat} (hs : s.ok N) {i : Nat} (hi : i ≤ s.cuts.length) : (rth s.rows i).length = s.per := by
 have hr := hs.rows; rw [rth_eq _ _ (by omega)]; exact hs.row _ (List.getElem_mem _)
theorem mod_up {p j : Nat} (hj : j < p) (a : Int) : ∃ z, a ≤ z ∧ (z % (p : Int)).toNat = j := by
 refine ⟨a + ((j : Int) - a) % (p : Int), by have := Int.emod_nonneg ((j : Int) - a) (show (p : Int) ≠ 0 by omega); omega, ?_⟩; rw [Int.add_emod_emod, show a + ((j : Int) - a) = j by omega, Int.emod_eq_of_lt (by omega) (by omega)]
 omega
theorem mod_dn {p j : Nat} (hj : j < p) (a : Int) : ∃ z, z ≤ a ∧ (z % (p : Int)).toNat = j := by
 refine ⟨a - (a - (j : Int)) % (p : Int), by have := Int.emod_nonneg (a - (j : Int)) (show (p : Int) ≠ 0 by omega); omega, ?_⟩; rw [Int.sub_emod, Int.emod_emod, ← Int.sub_emod, show a - (a - (j : Int)) = j by omega, Int.emod_eq_of_lt (by omega) (by omega)]
 omega
theorem has_of {s : Ps} {N : Nat} (hs : s.ok N) {z : Int} (h : s.has z = true) {i : Nat} (hi : plc (zv s.cuts) z = i) (hl : i ≤ s.cuts.length) : emp (rth s.rows i) = false := by
 unfold Ps.has at h; rw [hi] at h; exact emp_false.2 ⟨_, by rw [row_len hs hl]; exact mod_in hs z, h⟩
theorem plc_hi {l : List Int} {z : Int} (h : ∀ c ∈ l, c ≤ z) : plc l z = l.length := lbd_all fun c hc => by have := h c hc; omega
theorem plc_lo {l : List Int} {z : Int} (h : ∀ c ∈ l, z < c) : plc l z = 0 := lbd_none fun c hc => by have := h c hc; omega
theorem cut0_le {s : Ps} {N : Nat} (hs : s.ok N) (h0 : s.cuts.length ≠ 0) : ∀ c ∈ zv s.cuts, (zth s.cuts 0).v ≤ c := fun c hc => by
 obtain ⟨j, hj, rfl⟩ := List.getElem_of_mem hc; have hl := zv_len s.cuts; rw [← zv_at s.cuts 0 (by omega)]
 rcases Nat.eq_zero_or_pos j with rfl | h
 ·exact Int.le_refl _
 ·have := hs.ris.lt (i := 0) (j := j) (by omega) hj h; omega
theorem cutn_ge {s : Ps} {N : Nat} (hs : s.ok N) (h0 : s.cuts.length ≠ 0) : ∀ c ∈ zv s.cuts, c ≤ (zth s.cuts (s.cuts.length - 1)).v := fun c hc => by
 obtain ⟨j, hj, rfl⟩ := List.getElem_of_mem hc; have hl := zv_len s.cuts; rw [← zv_at s.cuts (s.cuts.length - 1) (by omega)]
 rcases Nat.lt_or_ge j (s.cuts.length - 1) with h | h
 ·have := hs.ris.lt hj (j := s.cuts.length - 1) (by omega) h; omega
 ·have : j = s.cuts.length - 1 := by omega
  subst this; exact Int.le_refl _
theorem low_row {s : Ps} {N : Nat} (hs : s.ok N) : lowV s = !emp (rth s.rows 0) := by
 have hl := zv_len s.cuts; unfold lowV
 by_cases h0 : s.cuts.length = 0
 ·rw [if_pos h0]
  have hp : ∀ z, plc (zv s.cuts) z = 0 := fun z => by have := plc_len (zv s.cuts) z; omega
  cases h : nxtV s (cz 0) with
  | some y =>
   rw [has_of hs (nxt_some hs h).2.1 (hp y) (by omega)]; rfl
  | none =>
   cases he : emp (rth s.rows 0) with
   | true => rfl
   | false =>
    obtain ⟨j, hj, hb⟩ := emp_false.1 he; rw [row_len hs (by omega)] at hj; obtain ⟨z, hz, hm⟩ := mod_up hj 0; have := nxt_none hs h z (by rw [cz_v]; exact hz); unfold Ps.has at this; rw [hp, hm, hb] at this
    cases this
 ·rw [if_neg h0]; have hc := cut0_le hs h0
  cases h : lstV s (cz ((zth s.cuts 0).v + -1)) with
  | some y =>
   obtain ⟨g1, g2, _⟩ := lst_some hs h; rw [cz_v] at g1
   rw [has_of hs g2 (plc_lo fun c hx => by have := hc c hx; omega) (by omega)]; rfl
  | none =>
   cases he : emp (rth s.rows 0) with
   | true => rfl
   | false =>
    obtain ⟨j, hj, hb⟩ := emp_false.1 he; rw [row_len hs (by omega)] at hj; obtain ⟨z, hz, hm⟩ := mod_dn hj ((zth s.cuts 0).v + -1); have := lst_none hs h z (by rw [cz_v]; exact hz); unfold Ps.has at this; rw [plc_lo fun c hx => by have := hc c hx; omega, hm, hb] at this
    cases this
theorem high_row {s : Ps} {N : Nat} (hs : s.ok N) : highV s = !emp (rth s.rows (s.rows.length - 1)) := by
 have hl := zv_len s.cuts; have hr := hs.rows
 have er : s.rows.length - 1 = s.cuts.length := by omega
 rw [er]; unfold highV
 by_cases h0 : s.cuts.length = 0
 ·rw [if_pos h0]; have h1 := low_row hs; unfold lowV at h1; rw [if_pos h0] at h1; rw [h1, h0]
 ·rw [if_neg h0]; have hc := cutn_ge hs h0
  cases h : nxtV s (zth s.cuts (s.cuts.length - 1)) with
  | some y =>
   obtain ⟨g1, g2, _⟩ := nxt_some hs h
   rw [has_of hs g2 ((plc_hi fun c hx => by have := hc c hx; omega).trans hl) (by omega)]; rfl
  | none =>
   cases he : emp (rth s.rows s.cuts.length) with
   | true => rfl
   | false =>
    obtain ⟨j, hj, hb⟩ := emp_false.1 he; rw [row_len hs (by omega)] at hj; obtain ⟨z, hz, hm⟩ := mod_up hj (zth s.cuts (s.cuts.length - 1)).v; have := nxt_none hs h z hz; unfold Ps.has at this; rw [plc_hi fun c hx => by have := hc c hx; omega, hl, hm, hb] at this
    cases this
theorem finR {s : Ps} {N : Nat} (hs : s.ok N) : finV s = if !emp (rth s.rows 0) || !emp (rth s.rows (s.rows.length - 1)) then none else if s.cuts.length = 0 then some 0 else some (cntV s (zth s.cuts 0) (zth s.cuts (s.cuts.length - 1)).v) := by
 unfold finV; rw [low_row hs, high_row hs]
theorem lstR {s : Ps} {N : Nat} (hs : s.ok N) : lstE s = if !emp (rth s.rows 0) || decide (s.cuts.length = 0) then none else nxtV s (zth s.cuts 0) := by
 unfold lstE; rw [low_row hs]

end Go.Proofs.YtpkfjbljhneenaaGreat
