/- riddleref01, riddleref02, riddleref05 in the new words. No conditions. -/
import Derived.Test.YthmjgbkakjpfkaaGreatDoorGLooksBm
import Derived.Test.YthmjgbkakjpfkaaGreatDoorGLooksBn
import Derived.Test.YthmjgbkakjpfkaaGreatDoorGLooksAc
import Derived.Test.YthmjgbkakjpfkaaGreatDoorGLooksAy
namespace Go.Proofs.YthmjgbkakjpfkaaGreatDoor
open Go.RowKit

theorem cI {c : Cx} {w : World} {n : Int} (h : i64 n) : RelR c [] w (.int .i64 n) (.c (.i .i64 n)) := ⟨rfl, by simp only [z_min]; exact h.1, by simp only [z_min]; exact h.2⟩
theorem cmp64 (a b : Int) : i64 (cmpI a b) := by have := cmpI_bd a b; exact ⟨by omega, by omega⟩
theorem ord64 (a b : T) : i64 (ordT a b) := by have := ordT_bd a b; exact ⟨by omega, by omega⟩
theorem rnorm_v (z : Z) (h : z.mag.length ≤ 4398046511104) : Fn Tryz.prog 100 [.g (dZ z)] (gZ true (cz z.v)) :=
  fn1 fun _ _ _ hv => (rnorm_c (relD_z.1 hv) h).mono fun _ _ ⟨r, e, h, x⟩ => ⟨r, e, ans_z h, x⟩
theorem rof_v (n : Int) (h : i64 n) : Fn Tryz.prog 71 [.c (.i .i64 n)] (gZ true (cz n)) :=
  fn1 fun w _ v hv => by
    obtain ⟨rfl, _⟩ := relD_i hv
    exact (rof_c n h.1 h.2 w).mono fun _ _ ⟨r, e, h, x⟩ => ⟨r, e, ans_z h, x⟩
theorem rsign_v (z : Z) (h : z.mag.length ≤ 4398046511104) : Fn Tryz.prog 55 [.g (dZ z)] (.c (.i .i64 (sgn z.v))) :=
  fn1 fun _ _ _ hv => (rsign_c (relD_z.1 hv) h).mono fun _ _ ⟨e, x⟩ => ⟨_, e, cI (cmp64 _ _), x⟩
theorem rcmp_v (x y : Z) (h : x.mag.length ≤ 4398046511104) (h' : y.mag.length ≤ 4398046511104) : Fn Tryz.prog 81 [.g (dZ x), .g (dZ y)] (.c (.i .i64 (cmpI x.v y.v))) :=
  fn2 fun _ _ _ _ hu hv => (rcmpz_c (relD_z.1 hu) (relD_z.1 hv) h h').mono fun _ _ ⟨e, x⟩ => ⟨_, e, cI (cmp64 _ _), x⟩
theorem rsame_v (x y : Z) (h : x.mag.length ≤ 4398046511104) (h' : y.mag.length ≤ 4398046511104) : Fn Tryz.prog 109 [.g (dZ x), .g (dZ y)] (.c (.b (decide (x.v = y.v)))) :=
  fn2 fun _ _ _ _ hu hv => (rsame_c (relD_z.1 hu) (relD_z.1 hv) h h').mono fun _ _ ⟨e, x⟩ => ⟨_, e, rfl, x⟩
theorem radd_v (x y : Z) (h : x.mag.length ≤ 1099511627776) (h' : y.mag.length ≤ 1099511627776) : Fn Tryz.prog 72 [.g (dZ x), .g (dZ y)] (gZ true (cz (x.v + y.v))) :=
  fn2 fun _ _ _ _ hu hv => (raddz_c (relD_z.1 hu) (relD_z.1 hv) h h').mono fun _ _ ⟨r, e, h, x⟩ => ⟨r, e, ans_z h, x⟩
theorem rmul_v (x y : Z) (h : x.mag.length ≤ 549755813888) (h' : y.mag.length ≤ 549755813888) : Fn Tryz.prog 121 [.g (dZ x), .g (dZ y)] (gZ true (cz (x.v * y.v))) :=
  fn2 fun _ _ _ _ hu hv => (rmulz_c (relD_z.1 hu) (relD_z.1 hv) h h').mono fun _ _ ⟨r, e, h, x⟩ => ⟨r, e, ans_z h, x⟩
theorem rnorm5_v (t : T) (N : Nat) (hN : N ≤ 17179869184) (hs : t.sz N) : Fn Tryz.prog 67 [.g (dT t)] (gT true t.nf) :=
  fn1 fun _ _ _ hv => (rnorm5_c (relD_t.1 hv) hN hs).mono fun _ _ ⟨r, e, h, x⟩ => ⟨r, e, ans_t h, x⟩
theorem rscale5_v (k : Z) (t : T) (N : Nat) (hN : N ≤ 4294967296) (hk : k.mag.length ≤ N) (hs : t.sz N) : Fn Tryz.prog 110 [.g (dZ k), .g (dT t)] (gT true (ct (sc k.v (vl t.ps)) (k.v * t.k.v))) :=
  fn2 fun _ _ _ _ hu hv => (rscale5_c (relD_z.1 hu) (relD_t.1 hv) hN hk hs).mono fun _ _ ⟨r, e, h, x⟩ => ⟨r, e, ans_t h, x⟩
theorem rorder5_v (a b : T) (N : Nat) (hN : N ≤ 1073741824) (sa : a.sz N) (sb : b.sz N) : Fn Tryz.prog 82 [.g (dT a), .g (dT b)] (.c (.i .i64 (ordT a b))) :=
  fn2 fun _ _ _ _ hu hv => (rorder5_c (relD_t.1 hu) (relD_t.1 hv) hN sa sb).mono fun _ _ ⟨e, x⟩ => ⟨_, e, cI (ord64 a b), x⟩
theorem rquo_v (a : List Nat) (n : Nat) (h0 : 0 < n) (hn : n < 4294967296) (hL : a.length ≤ 4398046511104) : Fn Tryz.prog 140 [.c (.l (dN a)), .c (.i .u32 n)] (.t [.c (.l true (dN (lim (nv a / n)))), .c (.i .u32 ((nv a % n : Nat) : Int))]) :=
  fn2 fun _ _ _ _ hu hv => by
    obtain ⟨A, c, rfl, h⟩ := relD_n.1 hu
    obtain ⟨rfl, _⟩ := relD_i hv
    exact (rquo_c h n h0 hn hL).mono fun _ _ ⟨A', c', e, h, x⟩ => ⟨_, e, ⟨_, rfl, .cons (ans_n h) (.cons ⟨rfl, by simp only [z_min]; omega, by simp only [z_min]; have := Nat.mod_lt (nv a) h0; omega⟩ .nil)⟩, x⟩
theorem rtrim_v (a : List Nat) (hL : a.length ≤ 4398046511104) : Fn Tryz.prog 138 [.c (.l (dN a))] (.c (.l true (dN (lim (nv a))))) :=
  fn1 fun _ _ _ hu => by
    obtain ⟨A, c, rfl, h⟩ := relD_n.1 hu
    exact (rtrim_c h hL).mono fun _ _ ⟨A', c', e, h, x⟩ => ⟨_, e, ans_n h, x⟩
theorem rdivm_v (a b : List Nat) (h0 : 0 < nv b) (hL : a.length ≤ 549755813888) (hLb : b.length ≤ 549755813888) : Fn Tryz.prog 143 [.c (.l (dN a)), .c (.l (dN b))] (.t [.c (.l true (dN (lim (nv a / nv b)))), .c (.l true (dN (lim (nv a % nv b))))]) :=
  fn2 fun _ _ _ _ hu hv => by
    obtain ⟨A, c, rfl, h⟩ := relD_n.1 hu
    obtain ⟨B, d, rfl, h'⟩ := relD_n.1 hv
    exact (rdivm_c h h' h0 hL hLb).mono fun _ _ ⟨A1, c1, A2, c2, e, h1, h2, x⟩ => ⟨_, e, ⟨_, rfl, .cons (ans_n h1) (.cons (ans_n h2) .nil)⟩, x⟩
theorem rgcd1_v (a b : List Nat) (hL : a.length ≤ 549755813888) (hLb : b.length ≤ 549755813888) : Fn Tryz.prog 112 [.c (.l (dN a)), .c (.l (dN b))] (.c (.l true (dN (lim (Nat.gcd (nv a) (nv b)))))) :=
  fn2 fun _ _ _ _ hu hv => by
    obtain ⟨A, c, rfl, h⟩ := relD_n.1 hu
    obtain ⟨B, d, rfl, h'⟩ := relD_n.1 hv
    exact (rgcd1_c h h' hL hLb).mono fun _ _ ⟨A', c', e, h, x⟩ => ⟨_, e, ans_n h, x⟩

end Go.Proofs.YthmjgbkakjpfkaaGreatDoor
