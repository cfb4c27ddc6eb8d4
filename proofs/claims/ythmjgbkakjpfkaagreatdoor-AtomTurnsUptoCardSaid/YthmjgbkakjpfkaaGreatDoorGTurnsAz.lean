/- term.Add, Sub, Scale. No conditions. term.Without, term.Put. No conditions. riddleref05.Add, Scale, Sub, Coef, Without, Put. No conditions. riddleref05.Scale, Sub. No conditions. term.Order: slices.CompareFunc at parts, and what Order hands it. No conditions. term.Order. No conditions. Terms compared, in plain words. No program here. Writing over memory of its own. No conditions. term.Eval. No conditions. -/
import Derived.Test.YthmjgbkakjpfkaaGreatDoorGTurnsAw
import Derived.Test.YthmjgbkakjpfkaaGreatDoorGTurnsAs
import Derived.Test.YthmjgbkakjpfkaaGreatDoorGTurnsAh
import Derived.Test.YthmjgbkakjpfkaaGreatDoorGTurnsAy
import Derived.Shelf.Abstract
import Derived.Test.YthmjgbkakjpfkaaGreatDoorGTurnsAa
namespace Go.Proofs.YthmjgbkakjpfkaaGreatDoor
open Go.RowKit

theorem nf_add (a b : T) : ct (sc (cz 1).v (vl a.ps) ++ sc (cz 1).v (vl b.ps)) ((cz 1).v * a.k.v + (cz 1).v * b.k.v) = ct (vl a.ps ++ vl b.ps) (a.k.v + b.k.v) := by
  rw [cz_v, sc_one, sc_one, Int.one_mul, Int.one_mul]
theorem nf_sub (a b : T) : ct (sc (cz 1).v (vl a.ps) ++ sc (cz (-1)).v (vl b.ps)) ((cz 1).v * a.k.v + (cz (-1)).v * b.k.v) = ct (vl a.ps ++ sc (-1) (vl b.ps)) (a.k.v - b.k.v) := by
  rw [cz_v, cz_v, sc_one, Int.one_mul, show a.k.v + -1 * b.k.v = a.k.v - b.k.v from by omega]
theorem nf_scale (k : Z) (t : T) : ct (sc k.v (vl t.ps) ++ sc (Z.v ⟨false, []⟩) (vl [])) (k.v * t.k.v + Z.v ⟨false, []⟩ * Z.v ⟨false, []⟩) = ct (sc k.v (vl t.ps)) (k.v * t.k.v) := by
  refine ct_congr (fun x => ?_) ?_
  · rw [cf_append]; simp [vl, sc, cf]
  · simp [Z.v, nv]

set_option maxHeartbeats 800000 in
theorem tscale_f {kv v : Value} {k : Z} {t : T} {w : World} {X Y : Nat → Prop} {N : Nat} (hk : Zi w X kv k) (h : Tv w Y v t) (hN : N ≤ 34359738368) (sk : k.mag.length ≤ N) (s : t.sz N) :
    Calls Tryz.prog 42 #[kv, v] w fun e w' => ∃ r, e = .returned r ∧ TvF w' w.heap.size r (ct (sc k.v (vl t.ps)) (k.v * t.k.v)) ∧ Ext w w' := by
  obtain ⟨K, kc, rfl, hk⟩ := hk; obtain ⟨A, c, B, d, rfl, h1, h2⟩ := h
  go_enter Tryz.func42, Tryz.ntmps42
  go_wp2_with fail
  refine (sum_c (k := k) (a := t) ⟨_, _, rfl, hk.ext xt⟩ ⟨_, _, _, _, rfl, h1.ext xt, h2.ext xt⟩ (zero_zi _ (fun _ => True)) (zero_tv _ (fun _ => True)) hN sk s (Nat.zero_le _) ⟨Nat.zero_le _, by simp, Nat.zero_le _⟩).mono ?_; rw [nf_scale]; rintro e w1 ⟨r, rfl, hF, hx⟩; have hF3 := hF; obtain ⟨A1, c1, B1, d1, rfl, -, -, -⟩ := hF; have hc := hx.cells
  (have hs := Ext.size hx; (try simp only [wsz] at hs))
  go_wp2_with fail
  (refine bodyPost_ret (v := ?_) ?_ rfl ?_; rotate_left; (simp only [results, Tryz.results42]; go_simp; (first | done | with_reducible rfl)))
  exact ⟨_, rfl, (hF3.keep kpt).lower (by first | omega | (simp only [wsz]; omega)), xt⟩

theorem tscale_c {kv v : Value} {k : Z} {t : T} {w : World} {X Y : Nat → Prop} {N : Nat} (hk : Zi w X kv k) (h : Tv w Y v t) (hN : N ≤ 34359738368) (sk : k.mag.length ≤ N) (s : t.sz N) :
    Calls Tryz.prog 42 #[kv, v] w fun e w' => ∃ r, e = .returned r ∧ Tv w' (w.heap.size ≤ ·) r (ct (sc k.v (vl t.ps)) (k.v * t.k.v)) ∧ Ext w w' :=
  (tscale_f hk h hN sk s).mono fun _ _ ⟨r, e, h1, h2⟩ => ⟨r, e, h1.tv, h2⟩

theorem one_len (N : Nat) (h : 2 ≤ N) : (cz 1).mag.length ≤ N ∧ (cz (-1)).mag.length ≤ N := by
  rw [cz_len, cz_len]; exact ⟨Nat.le_trans (zl_word (x := 1) (by omega)) h, Nat.le_trans (zl_word (x := -1) (by omega)) h⟩

set_option maxHeartbeats 800000 in
theorem tadd_f {av bv : Value} {a b : T} {w : World} {X Y : Nat → Prop} {N : Nat} (ha : Tv w X av a) (hb : Tv w Y bv b) (hN : N ≤ 34359738368) (h2N : 2 ≤ N) (sa : a.sz N) (sb : b.sz N) :
    Calls Tryz.prog 44 #[av, bv] w fun e w' => ∃ r, e = .returned r ∧ TvF w' w.heap.size r (ct (vl a.ps ++ vl b.ps) (a.k.v + b.k.v)) ∧ Ext w w' := by
  obtain ⟨A, c, AK, d, rfl, ha1, ha2⟩ := ha; obtain ⟨B, c', BK, d', rfl, hb1, hb2⟩ := hb
  go_enter Tryz.func44, Tryz.ntmps44
  go_wp2_with fail
  refine wp_region_seq 5 [(1, true), (3, true), (0, false), (2, false), (4, false), (5, false)] rfl (by kernel_rfl) (by intro _ _ d _ _ h; cases d <;> exact h) ?_
  (repeat (refine sq_take (v := ?_) rfl rfl ?_ ?_; rotate_left; (intro w' hx'; have hc' := hx'.cells.1; (try simp only [wcd] at hc'); go_simp; (first | done | with_reducible rfl)); (try simp only [pt])))
  (refine sq_loud rfl rfl fun K hK => ?_; go_simp)
  refine (zof_c 1 (by omega) (by omega) _).mono ?_; rintro e w1 ⟨r1, rfl, hz1, hx1⟩
  (have hs1 := Ext.size hx1; (try simp only [wsz] at hs1))
  (refine hK _ _ xt ?_; clear hK K; (try simp only [pt]))
  (refine sq_loud rfl rfl fun K hK => ?_; go_simp)
  refine (zof_c 1 (by omega) (by omega) _).mono ?_; rintro e w2 ⟨r2, rfl, hz2, hx2⟩
  (have hs2 := Ext.size hx2; (try simp only [wsz] at hs2))
  (refine hK _ _ xt ?_; clear hK K; (try simp only [pt]))
  (refine sq_loud rfl rfl fun K hK => ?_; go_simp)
  refine (sum_c (a := a) (b := b) (hz1.ext hx2) ⟨_, _, _, _, rfl, ha1.ext xt, ha2.ext xt⟩ hz2 ⟨_, _, _, _, rfl, hb1.ext xt, hb2.ext xt⟩ hN (one_len N h2N).1 sa (one_len N h2N).1 sb).mono ?_; rw [nf_add]; rintro e w3 ⟨r, rfl, hF, hx3⟩; have hF3 := hF; obtain ⟨A1, c1, B1, d1, rfl, -, -, -⟩ := hF
  (have hs3 := Ext.size hx3; (try simp only [wsz] at hs3))
  have hb3 : Box w3 (w.heap.size + 1 + 1) 27 #[.slice none 0 0, .bool false, .slice none 0 0] := bxt; have hb3r := hb3.rules; have hb3l := hb3.lt
  (refine hK _ _ xt ?_; clear hK K; (try simp only [pt]))
  (repeat (refine sq_take (v := ?_) rfl rfl ?_ ?_; rotate_left; (intro w' hx'; have hc' := hx'.cells.1; (try simp only [wcd] at hc'); go_simp; (first | done | with_reducible rfl)); (try simp only [pt])))
  (refine sq_last rfl rfl fun K hK => ?_; go_simp; refine hK _ _ ?_; clear hK K)
  go_wp2_with fail
  (refine bodyPost_ret (v := ?_) ?_ rfl ?_; rotate_left; (simp only [results, Tryz.results44]; go_simp; (first | done | with_reducible rfl)))
  exact ⟨_, rfl, (hF3.keep kpt).lower (by first | omega | (simp only [wsz]; omega)), xt⟩

theorem tadd_c {av bv : Value} {a b : T} {w : World} {X Y : Nat → Prop} {N : Nat} (ha : Tv w X av a) (hb : Tv w Y bv b) (hN : N ≤ 34359738368) (h2N : 2 ≤ N) (sa : a.sz N) (sb : b.sz N) :
    Calls Tryz.prog 44 #[av, bv] w fun e w' => ∃ r, e = .returned r ∧ Tv w' (w.heap.size ≤ ·) r (ct (vl a.ps ++ vl b.ps) (a.k.v + b.k.v)) ∧ Ext w w' :=
  (tadd_f ha hb hN h2N sa sb).mono fun _ _ ⟨r, e, h1, h2⟩ => ⟨r, e, h1.tv, h2⟩

set_option maxHeartbeats 800000 in
theorem tsub_f {av bv : Value} {a b : T} {w : World} {X Y : Nat → Prop} {N : Nat} (ha : Tv w X av a) (hb : Tv w Y bv b) (hN : N ≤ 34359738368) (h2N : 2 ≤ N) (sa : a.sz N) (sb : b.sz N) :
    Calls Tryz.prog 85 #[av, bv] w fun e w' => ∃ r, e = .returned r ∧ TvF w' w.heap.size r (ct (vl a.ps ++ sc (-1) (vl b.ps)) (a.k.v - b.k.v)) ∧ Ext w w' := by
  obtain ⟨A, c, AK, d, rfl, ha1, ha2⟩ := ha; obtain ⟨B, c', BK, d', rfl, hb1, hb2⟩ := hb
  go_enter Tryz.func85, Tryz.ntmps85
  go_wp2_with fail
  refine wp_region_seq 5 [(1, true), (3, true), (0, false), (2, false), (4, false), (5, false)] rfl (by kernel_rfl) (by intro _ _ d _ _ h; cases d <;> exact h) ?_
  (repeat (refine sq_take (v := ?_) rfl rfl ?_ ?_; rotate_left; (intro w' hx'; have hc' := hx'.cells.1; (try simp only [wcd] at hc'); go_simp; (first | done | with_reducible rfl)); (try simp only [pt])))
  (refine sq_loud rfl rfl fun K hK => ?_; go_simp)
  refine (zof_c 1 (by omega) (by omega) _).mono ?_; rintro e w1 ⟨r1, rfl, hz1, hx1⟩
  (have hs1 := Ext.size hx1; (try simp only [wsz] at hs1))
  (refine hK _ _ xt ?_; clear hK K; (try simp only [pt]))
  (refine sq_loud rfl rfl fun K hK => ?_; go_simp)
  refine (zof_c (-1) (by omega) (by omega) _).mono ?_; rintro e w2 ⟨r2, rfl, hz2, hx2⟩
  (have hs2 := Ext.size hx2; (try simp only [wsz] at hs2))
  (refine hK _ _ xt ?_; clear hK K; (try simp only [pt]))
  (refine sq_loud rfl rfl fun K hK => ?_; go_simp)
  refine (sum_c (a := a) (b := b) (hz1.ext hx2) ⟨_, _, _, _, rfl, ha1.ext xt, ha2.ext xt⟩ hz2 ⟨_, _, _, _, rfl, hb1.ext xt, hb2.ext xt⟩ hN (one_len N h2N).1 sa (one_len N h2N).2 sb).mono ?_; rw [nf_sub]; rintro e w3 ⟨r, rfl, hF, hx3⟩; have hF3 := hF; obtain ⟨A1, c1, B1, d1, rfl, -, -, -⟩ := hF
  (have hs3 := Ext.size hx3; (try simp only [wsz] at hs3))
  have hb3 : Box w3 (w.heap.size + 1 + 1) 27 #[.slice none 0 0, .bool false, .slice none 0 0] := bxt; have hb3r := hb3.rules; have hb3l := hb3.lt
  (refine hK _ _ xt ?_; clear hK K; (try simp only [pt]))
  (repeat (refine sq_take (v := ?_) rfl rfl ?_ ?_; rotate_left; (intro w' hx'; have hc' := hx'.cells.1; (try simp only [wcd] at hc'); go_simp; (first | done | with_reducible rfl)); (try simp only [pt])))
  (refine sq_last rfl rfl fun K hK => ?_; go_simp; refine hK _ _ ?_; clear hK K)
  go_wp2_with fail
  (refine bodyPost_ret (v := ?_) ?_ rfl ?_; rotate_left; (simp only [results, Tryz.results85]; go_simp; (first | done | with_reducible rfl)))
  exact ⟨_, rfl, (hF3.keep kpt).lower (by first | omega | (simp only [wsz]; omega)), xt⟩

theorem tsub_c {av bv : Value} {a b : T} {w : World} {X Y : Nat → Prop} {N : Nat} (ha : Tv w X av a) (hb : Tv w Y bv b) (hN : N ≤ 34359738368) (h2N : 2 ≤ N) (sa : a.sz N) (sb : b.sz N) :
    Calls Tryz.prog 85 #[av, bv] w fun e w' => ∃ r, e = .returned r ∧ Tv w' (w.heap.size ≤ ·) r (ct (vl a.ps ++ sc (-1) (vl b.ps)) (a.k.v - b.k.v)) ∧ Ext w w' :=
  (tsub_f ha hb hN h2N sa sb).mono fun _ _ ⟨r, e, h1, h2⟩ => ⟨r, e, h1.tv, h2⟩

end Go.Proofs.YthmjgbkakjpfkaaGreatDoor

namespace Go.Proofs.YthmjgbkakjpfkaaGreatDoor
open Go.RowKit Go.Shelf

theorem wo_sub {x : Int} {l : List (Int × Z)} {p : Int × Z} (h : p ∈ wo x l) : p ∈ l := (List.mem_filter.1 h).1
theorem wo_len (x : Int) (l : List (Int × Z)) : (wo x l).length ≤ l.length := List.length_filter_le _ _
def T.wo (t : T) (x : Int) : T := ⟨Go.Proofs.YthmjgbkakjpfkaaGreatDoor.wo x t.ps, t.k⟩
theorem T.wo_sz {t : T} {x : Int} {N : Nat} (h : t.sz N) : (t.wo x).sz N := ⟨Nat.le_trans (wo_len x t.ps) h.1, fun p hp => h.2.1 p (wo_sub hp), h.2.2⟩

set_option maxHeartbeats 1600000 in
theorem twithout_f {v : Value} {t : T} {w : World} {X : Nat → Prop} {N : Nat} {x : Int} (h : Tv w X v t) (hN : N ≤ 1073741824) (hs : t.sz N) :
    Calls Tryz.prog 126 #[v, .int .i64 x] w fun e w' => ∃ r, e = .returned r ∧ TvF w' w.heap.size r (t.wo x).nf ∧ Ext w w' := by
  have hs2 := T.wo_sz (x := x) hs; obtain ⟨A, c, B, d, rfl, h1, h2⟩ := h; obtain ⟨s1, s2, s3⟩ := hs
  go_enter Tryz.func126, Tryz.ntmps126
  go_wp2_with fail
  refine wp_named fun W hW => ?_
  have b2 : Box W (w.heap.size) 27 #[.slice A t.ps.length c, .bool t.k.neg, .slice B t.k.mag.length d] := by rw [hW]; exact bxt
  have b3 : Box W (w.heap.size + 1) 3 #[.int .i64 x] := by rw [hW]; exact bxt
  have b4 : Box W (w.heap.size + 1 + 1) 27 #[.slice none 0 0, .bool false, .slice none 0 0] := by rw [hW]; exact bxt
  have hE : Ext w W := by rw [hW]; exact xt
  clear hW; refine wp_region_oe [9] (.quiet 0 (.quiet 1 (.quiet 3 (.quiet 5 (.quiet 6 (.loud 2 (.loud 4 (.quiet 7 (.loud 8 (.late [9])))))))))) rfl (by kernel_rfl) (by intro _ _ d _ _ h; cases d <;> exact h) ?_; obtain ⟨V, hV⟩ : ∃ V, V = W.drew := ⟨_, rfl⟩
  have hVx : Ext W V := by rw [hV]; exact xt
  rw [← hV]; clear hV; have b2V := b2.ext hVx; have b3V := b3.ext hVx; have b4V := b4.ext hVx; have b2r := b2V.rules; have b2l := b2V.lt; have b3l := b3V.lt; have b4l := b4V.lt; have hEV := hE.trans hVx
  (repeat (refine oe_take (v := ?_) rfl rfl ?_ ?_; rotate_left; (intro w' hx'; have hc' := hx'.cells.1; (try simp only [wcd] at hc'); go_simp; (first | done | with_reducible rfl)); (try simp only [pt])))
  (refine oe_loud rfl rfl fun K hK => ?_; go_simp)
  refine (clonep_c (h1.below.ext hEV) (by omega)).mono ?_; rintro e w1 ⟨v1, rfl, hO, -, hx1⟩
  have hO := hO.widen (Z' := fun b => b < V.heap.size) fun b hb _ => hb.2
  obtain ⟨A1, c1, rfl, hj⟩ := Own.sl hO (by omega) (X := fun _ => True) (fun _ _ => trivial); clear hj; have hrow := hO.row
  (have hs1 := Ext.size hx1; (try simp only [wsz] at hs1))
  have b3' := b3V.ext hx1
  have hg3 : w1.cell? ⟨w.heap.size + 1, 0, none⟩ = some (.int .i64 x) := by rw [b3'.cell]; rfl
  refine hK _ _ xt ?_; clear hK K
  (try simp only [pt])
  (refine oe_loud rfl rfl fun K hK => ?_; go_simp)
  refine (delf_c hO hg3 b3'.lt (fun e => by have := (hrow _ e).1; omega) (by omega)).mono ?_; rintro e w2 ⟨v2, rfl, hO2, hgr⟩; obtain ⟨A2, c2, rfl, hP2⟩ := Own.sl hO2 (by omega) (X := fun _ => True) (fun _ _ => trivial)
  have hx2 : Ext V w2 := Ext.grown hx1 hgr fun k hk => (hrow k hk).1
  refine hK _ _ hx2 ?_; clear hK K
  (try simp only [pt])
  (repeat (refine oe_take (v := ?_) rfl rfl ?_ ?_; rotate_left; (intro w' hx'; have hc' := hx'.cells.1; (try simp only [wcd] at hc'); go_simp; (first | done | with_reducible rfl)); (try simp only [pt])))
  (refine oe_loud rfl rfl fun K hK => ?_; go_simp)
  refine (tnorm_f (t := t.wo x) (N := N) ⟨_, _, _, _, rfl, hP2, (h2.widen (Y := fun _ => True) fun _ _ _ => trivial).ext (hEV.trans hx2)⟩ (by omega) hs2).mono ?_; rintro e w3 ⟨r3, rfl, hF, hx3⟩; have hF3 := hF; obtain ⟨A3, c3, B3, d3, rfl, -, -, -⟩ := hF; have hs2' := hx2.size; have hs3 := hx3.size; have hx3V := hx2.trans hx3; refine hK _ _ hx3V ?_; clear hK K
  (try simp only [pt])
  refine oe_late ?_; have b4' := b4V.ext hx3V; have b4r := b4'.rules; have b4l' := b4'.lt; clear b2r
  (refine sh_late rfl rfl fun K hK => ?_; go_simp; refine hK _ _ ?_; clear hK K)
  refine sh_end ?_; have hE3 := hEV.trans hx3V
  go_wp2_with fail
  (refine bodyPost_ret (v := ?_) ?_ rfl ?_; rotate_left; (simp only [results, Tryz.results126]; go_simp; (first | done | with_reducible rfl)))
  refine ⟨_, rfl, (TvF.keep (TvF.lower (B' := w.heap.size + 1 + 1 + 1) hF3 (by omega)) kpt).lower (by omega), ?_⟩; exact ((hE3.setCell (by simp only; omega) _).setCell (by simp only; omega) _).setCell (by simp only; omega) _

theorem twithout_c {v : Value} {t : T} {w : World} {X : Nat → Prop} {N : Nat} {x : Int} (h : Tv w X v t) (hN : N ≤ 1073741824) (hs : t.sz N) :
    Calls Tryz.prog 126 #[v, .int .i64 x] w fun e w' => ∃ r, e = .returned r ∧ Tv w' (w.heap.size ≤ ·) r (t.wo x).nf ∧ Ext w w' :=
  (twithout_f h hN hs).mono fun _ _ ⟨r, e, h1, h2⟩ => ⟨r, e, h1.tv, h2⟩

def T.put (t : T) (x : Int) (u : T) : T := ct (cn (vl (Go.Proofs.YthmjgbkakjpfkaaGreatDoor.wo x t.ps)) ++ sc (cf (vl t.ps) x) (vl u.ps)) (t.k.v + cf (vl t.ps) x * u.k.v)
theorem put_eq (t u : T) (x : Int) : ct (sc (cz 1).v (vl (t.wo x).nf.ps) ++ sc (cz (cf (vl t.ps) x)).v (vl u.ps)) ((cz 1).v * (t.wo x).nf.k.v + (cz (cf (vl t.ps) x)).v * u.k.v) = t.put x u := by
  have e1 : vl (t.wo x).nf.ps = cn (vl (wo x t.ps)) := vl_cl _; have e2 : (t.wo x).nf.k.v = t.k.v := cz_v _; rw [e1, e2, cz_v, cz_v, sc_one, Int.one_mul]
  rfl

set_option maxHeartbeats 1600000 in
theorem tput_f {v uv : Value} {t u : T} {w : World} {X Y : Nat → Prop} {N : Nat} {x : Int} (h : Tv w X v t) (hu : Tv w Y uv u) (hN : N ≤ 1073741824) (h2N : 2 ≤ N) (hs : t.sz N) (su : u.sz N) :
    Calls Tryz.prog 87 #[v, .int .i64 x, uv] w fun e w' => ∃ r, e = .returned r ∧ TvF w' w.heap.size r (t.put x u) ∧ Ext w w' := by
  have hlb := h.lb; have hsn := nf_sz (T.wo_sz (x := x) hs) ⟨fun p hp => hlb.1 p (wo_sub hp), hlb.2⟩
  have hcl : zl (cf (vl t.ps) x) ≤ N + N := by
    have := zl_cf (zl_vl hlb.1 hs.2.1) x; rw [vl_len] at this; have := hs.1
    omega
  have htv := h; have huv := hu
  obtain ⟨A, c, B, d, rfl, h1, h2⟩ := h; obtain ⟨UA, uc, UB, ud, rfl, u1, u2⟩ := hu
  go_enter Tryz.func87, Tryz.ntmps87
  go_wp2_with fail
  refine wp_named fun W hW => ?_
  have b3 : Box W (w.heap.size) 27 #[.slice A t.ps.length c, .bool t.k.neg, .slice B t.k.mag.length d] := by rw [hW]; exact bxt
  have b5 : Box W (w.heap.size + 1) 27 #[.slice UA u.ps.length uc, .bool u.k.neg, .slice UB u.k.mag.length ud] := by rw [hW]; exact bxt
  have b6 : Box W (w.heap.size + 1 + 1) 27 #[.slice none 0 0, .bool false, .slice none 0 0] := by rw [hW]; exact bxt
  have hE : Ext w W := by rw [hW]; exact xt
  clear hW; have b3r := b3.rules; have b5r := b5.rules; have b3l := b3.lt; have b5l := b5.lt; have b6l := b6.lt; refine wp_region_seq 9 [(1, true), (2, true), (4, true), (5, true), (7, true), (0, false), (3, false), (6, false), (8, false), (9, false)] rfl (by kernel_rfl) (by intro _ _ d _ _ h; cases d <;> exact h) ?_
  (repeat (refine sq_take (v := ?_) rfl rfl ?_ ?_; rotate_left; (intro w' hx'; have hc' := hx'.cells.1; (try simp only [wcd] at hc'); go_simp; (first | done | with_reducible rfl)); (try simp only [pt])))
  (refine sq_loud rfl rfl fun K hK => ?_; go_simp)
  refine (zof_c 1 (by omega) (by omega) _).mono ?_; rintro e w1 ⟨r1, rfl, hz1, hx1⟩
  (refine hK _ _ xt ?_; clear hK K; (try simp only [pt]))
  (refine sq_loud rfl rfl fun K hK => ?_; go_simp)
  refine (twithout_c (x := x) (htv.ext (hE.trans xt)) (by omega) hs).mono ?_; rintro e w2 ⟨r2, rfl, ht2, hx2⟩
  (refine hK _ _ xt ?_; clear hK K; (try simp only [pt]))
  (refine sq_loud rfl rfl fun K hK => ?_; go_simp)
  refine (tcoef_c (x := x) (htv.ext (hE.trans xt)) (by omega) hs).mono ?_; rintro e w3 ⟨r3, rfl, hz3, hx3⟩
  (refine hK _ _ xt ?_; clear hK K; (try simp only [pt]))
  (refine sq_loud rfl rfl fun K hK => ?_; go_simp)
  refine (sum_c (N := N + N) ((hz1.ext hx2).ext hx3) (ht2.ext hx3) hz3 (huv.ext (hE.trans xt)) (by omega) (Nat.le_trans (one_len N h2N).1 (by omega)) hsn (by rw [cz_len]; exact hcl) (su.mono (by omega))).mono ?_; rw [put_eq]; rintro e w4 ⟨r4, rfl, hF, hx4⟩; have hF3 := hF; obtain ⟨A4, c4, B4, d4, rfl, -, -, -⟩ := hF; have b6' := (((b6.drew.ext hx1).ext hx2).ext hx3).ext hx4; have b6r := b6'.rules; have b6l' := b6'.lt
  have hs1 := hx1.size; have hs2 := hx2.size; have hs3 := hx3.size; have hs4 := hx4.size
  simp only [wsz] at hs1; clear b3r b5r
  (refine hK _ _ xt ?_; clear hK K; (try simp only [pt]))
  (repeat (refine sq_take (v := ?_) rfl rfl ?_ ?_; rotate_left; (intro w' hx'; have hc' := hx'.cells.1; (try simp only [wcd] at hc'); go_simp; (first | done | with_reducible rfl)); (try simp only [pt])))
  (refine sq_last rfl rfl fun K hK => ?_; go_simp; refine hK _ _ ?_; clear hK K)
  have hE4 : Ext w w4 := hE.trans xt
  go_wp2_with fail
  (refine bodyPost_ret (v := ?_) ?_ rfl ?_; rotate_left; (simp only [results, Tryz.results87]; go_simp; (first | done | with_reducible rfl)))
  refine ⟨_, rfl, (TvF.keep (TvF.lower (B' := w.heap.size + 1 + 1 + 1) hF3 (by omega)) kpt).lower (by omega), ?_⟩; exact ((hE4.setCell (by simp only; omega) _).setCell (by simp only; omega) _).setCell (by simp only; omega) _

end Go.Proofs.YthmjgbkakjpfkaaGreatDoor

namespace Go.Proofs.YthmjgbkakjpfkaaGreatDoor
open Go.RowKit Go.Shelf

theorem wpl_named {P : Program} {ops : Array Oper} {Q : Exit → Act → World → Prop} {l : List Oper} {a : Act} {w : World} (h : ∀ W, W = w → wpList P ops Q l a W) : wpList P ops Q l a w := h w rfl
theorem wpList_appps {w : World} {ops : Array Oper} {rest : List Oper} {o : Oper} {a : Act} {Q : Exit → Act → World → Prop} (s x : Operand) {Zp X : Nat → Prop} {base : Nat} {v : Value} {l m : List (Int × Z)} {A : Option Addr} {c : Nat}
    (h : Own 3 EP w Zp base 37 v l) (hm : Pl w X A c m) (hX : ∀ b, X b → b < w.heap.size → Zp b ∧ v.ownBlock ≠ some b) (hl : l.length + m.length ≤ 2199023255552) (hbase : base ≤ w.heap.size)
    (hgd : o.guard = none) (ho : o.op = .call { callee := .builtin .append, args := #[s, x], argTypes := #[25, 25] }) (hs : a.eval s = v) (hx : a.eval x = .slice A m.length c)
    (H : ∀ v' w', Own 3 EP w' Zp base 37 v' (l ++ m) → w.grownBy w' v.ownBlock → (v'.ownBlock = v.ownBlock ∨ v'.ownBlock = some w.heap.size) → wpList Tryz.prog ops Q rest (a.put o.dst v') w') :
    wpList Tryz.prog ops Q (o :: rest) a w := by
  obtain ⟨ys, hf, hfc⟩ := (hm.widen (Y := fun b => Zp b ∧ v.ownBlock ≠ some b) hX).flat
  exact wpList_app ety_p s x h hf (fun h0 => by
    obtain ⟨b, o, hA, _, hc⟩ := hfc h0
    exact ⟨b, o, hA, hc⟩) (by omega) (by simp only [maxLen]; omega) hbase hgd ho hs hx H

theorem nf_two (a b : T) : (⟨a.ps ++ b.ps, cz (a.k.v + b.k.v)⟩ : T).nf = ct (vl a.ps ++ vl b.ps) (a.k.v + b.k.v) := by
  show ct (vl (a.ps ++ b.ps)) (cz (a.k.v + b.k.v)).v = _
  rw [vl_append, cz_v]

set_option maxHeartbeats 1600000 in
theorem radd5_c {av bv : Value} {a b : T} {w : World} {X Y : Nat → Prop} {N : Nat} (ha : Tv w X av a) (hb : Tv w Y bv b) (hN : N ≤ 4294967296) (sa : a.sz N) (sb : b.sz N) :
    Calls Tryz.prog 128 #[av, bv] w fun e w' => ∃ r, e = .returned r ∧ Tv w' (w.heap.size ≤ ·) r (ct (vl a.ps ++ vl b.ps) (a.k.v + b.k.v)) ∧ Ext w w' := by
  have la := ha.lb; have lb := hb.lb
  obtain ⟨A, c, AK, d, rfl, ha1, ha2⟩ := ha; obtain ⟨B, c', BK, d', rfl, hb1, hb2⟩ := hb; obtain ⟨sa1, sa2, sa3⟩ := sa; obtain ⟨sb1, sb2, sb3⟩ := sb
  have ha1 := ha1.below; have hb1 := hb1.below
  go_enter Tryz.func128, Tryz.ntmps128
  go_wp2_with (first
    | (at_builtin
       refine wpl_named fun W hW => ?_
       have b2 : Box W w.heap.size 27 #[.slice A a.ps.length c, .bool a.k.neg, .slice AK a.k.mag.length d] := by rw [hW]; exact bxt
       have b3 : Box W (w.heap.size + 1) 27 #[.slice B b.ps.length c', .bool b.k.neg, .slice BK b.k.mag.length d'] := by rw [hW]; exact bxt
       have b4 : Box W (w.heap.size + 1 + 1) 27 #[.slice none 0 0, .bool false, .slice none 0 0] := by rw [hW]; exact bxt
       have hE : Ext w W := by rw [hW]; exact xt
       clear hW; have b4l := b4.lt
       (refine wpList_appps (l := []) (.tmp 6) (.tmp 8) (Own.nil W (· < w.heap.size) W.heap.size 37) (ha1.ext hE) (fun q hq _ => ⟨hq, by simp [Value.ownBlock]⟩) (by simp only [List.length_nil]; omega) (Nat.le_refl _) rfl rfl rfl rfl ?_)
       intro v1 w1 hO1 hg1 hv1; have hx1 : Ext W w1 := (Ext.refl W).grown hg1 (by simp [Value.ownBlock]); have hE1 : Ext w w1 := hE.trans hx1; have c2 := b2.ext hx1; have c3 := b3.ext hx1; have c4 := b4.ext hx1; have c3r := c3.rules; have c3l := c3.lt; rw [List.nil_append] at hO1
       have hrow1 := hO1.row)
    | (at_builtin
       (refine wpList_appps (.tmp 10) (.tmp 12) hO1 (hb1.ext hE1) (fun q hq _ => ⟨hq, fun e => by have := (hrow1 _ e).1; have := hE.size; omega⟩) (by omega) (by have := hx1.size; omega) rfl rfl rfl rfl ?_)
       intro v2 w2 hO2 hg2 hv2; have hx2 : Ext W w2 := hx1.grown hg2 (fun k hk => (hrow1 _ hk).1); have hE2 : Ext w w2 := hE.trans hx2; have e2 := b2.ext hx2; have e3 := b3.ext hx2; have e4 := b4.ext hx2
       have e2r := e2.rules; have e2l := e2.lt
       have e3r := e3.rules; have e3l := e3.lt
       clear c3r)
    | fail)
  obtain ⟨A2, c2, rfl, hP2⟩ := Own.sl hO2 (by omega) (X := fun _ => True) (fun _ _ => trivial); have hP2 : Pl w2 (fun _ => True) A2 c2 (a.ps ++ b.ps) := hP2; refine (raddz_c (x := a.k) (y := b.k) ⟨_, _, rfl, ha2.ext (hE2.trans xt)⟩ ⟨_, _, rfl, hb2.ext (hE2.trans xt)⟩ (by omega) (by omega)).mono ?_; rintro e w3 ⟨r3, rfl, ⟨A3, c3, rfl, hK3⟩, hx3⟩; have f4 := e4.ext hx3; have hE3 : Ext w w3 := hE2.trans hx3; clear e2r e3r
  go_wp2_with fail
  refine (rnorm5_c (t := ⟨a.ps ++ b.ps, cz (a.k.v + b.k.v)⟩) (N := 2 * N + 1) ⟨_, _, _, _, by simp only [List.length_append], (hP2.ext hx3).ext xt, (hK3.widen (Y := fun _ => True) fun _ _ _ => trivial).ext xt⟩ (by omega) ⟨?_, ?_, ?_⟩).mono ?_
  · rw [List.length_append]; omega
  · intro p hp
    rcases List.mem_append.1 hp with hp | hp
    · have := sa2 p hp; omega
    · have := sb2 p hp; omega
  · show (cz (a.k.v + b.k.v)).mag.length ≤ _
    rw [cz_len]; have := zl_add (x := a.k.v) (y := b.k.v) (k := N) (Nat.le_trans (zl_of la.2) sa3) (Nat.le_trans (zl_of lb.2) sb3)
    omega
  rw [nf_two]; rintro e w4 ⟨r4, rfl, ⟨A4, c4, B4, d4, rfl, h41, h42⟩, hx4⟩; have g4 := f4.ext hx4; have g4r := g4.rules; have g4l := g4.lt; have hE4 : Ext w w4 := hE3.trans hx4; have hs3 := hE3.size; have hs2 := (hx2.trans hx3).size
  go_wp2_with fail
  (refine bodyPost_ret (v := ?_) ?_ rfl ?_; rotate_left; (simp only [results, Tryz.results128]; go_simp; (first | done | with_reducible rfl)))
  refine ⟨_, rfl, ⟨_, _, _, _, rfl, (Pl.keep (h41.widen (Y := fun c => w.heap.size + 1 + 1 < c) fun c hc _ => by omega) kpt).widen fun c hc _ => by omega, (Nl.keep (h42.widen (Y := fun c => w.heap.size + 1 + 1 < c) fun c hc _ => by omega) kpt).widen fun c hc _ => by omega⟩, ?_⟩; exact ((hE4.setCell (by simp only; omega) _).setCell (by simp only; omega) _).setCell (by simp only; omega) _

end Go.Proofs.YthmjgbkakjpfkaaGreatDoor

namespace Go.Proofs.YthmjgbkakjpfkaaGreatDoor
open Go.RowKit Go.Shelf

section
variable {ops : Array Oper} {Q : Exit → Act → World → Prop}
theorem sh_appp1 {i : Nat} {r : List Nat} {w : World} {o : Oper} {a : Act} (s x : Operand) {Zp : Nat → Prop} {base : Nat} {v : Value} {l : List (Int × Z)} {p : Int} {z : Z} {A : Option Addr} {c : Nat}
    (h : Own 3 EP w Zp base 37 v l) (hi : i64 p) (hN : Nl w (fun b => Zp b ∧ v.ownBlock ≠ some b) A c z.mag) (hl : l.length ≤ 2199023255552) (hbase : base ≤ w.heap.size)
    (hop : opAt ops.toList i = some o) (hgd : o.guard = none) (ho : o.op = .call { callee := .builtin .append, args := #[s, x], argTypes := #[25, 25] }) (hs : a.eval s = v) (hx : a.eval x = .slice (some ⟨w.heap.size, 0, none⟩) 1 1)
    (H : ∀ v' w', Own 3 EP w' Zp base 37 v' (l ++ [(p, z)]) → (w.alloc (.cells #[.int .i64 p, .bool z.neg, .slice A z.mag.length c] 37)).grownBy w' v.ownBlock →
      (v'.ownBlock = v.ownBlock ∨ v'.ownBlock = some (w.heap.size + 1)) → LateW Tryz.prog ops Q r (a.put o.dst v') w') :
    LateW Tryz.prog ops Q (i :: r) a (w.alloc (.cells #[.int .i64 p, .bool z.neg, .slice A z.mag.length c] 37)) := by
  refine sh_late hop hgd fun K hK => ?_
  obtain ⟨v', w', hrun, h5, h6, h7⟩ := run_app (m := [(p, z)]) (P := Tryz.prog) (ty := o.type) (A := some ⟨w.heap.size, 0, none⟩) (c := 1) ety_p (Own.ext h ((Ext.refl w).alloc (.cells #[.int .i64 p, .bool z.neg, .slice A z.mag.length c] 37))) (Fl.one (cs := [.int .i64 p, .bool z.neg, .slice A z.mag.length c]) ⟨A, c, rfl, hi, hN.ext ((Ext.refl w).alloc _)⟩ rfl) (fun _ => ⟨_, _, rfl, fun j u hu => by
    rw [World.cell?_alloc_at (hn := rfl)]
    match j, hu with
    | 0, hu => simpa using hu
    | 1, hu => simpa using hu
    | 2, hu => simpa using hu⟩) (by simp only [List.length_cons, List.length_nil]; omega) (by simp only [List.length_cons, List.length_nil, maxLen]; omega) (by simp only [World.size_alloc]; omega)
  unfold Oper.wp execOp; simp only [List.length_cons, List.length_nil, Nat.zero_add] at hrun; simp only [ho, resolve, invoke, builtin, Sem.run_bind, Sem.run_pure, Result.andThen_ok, List.map_toArray, List.map_cons, List.map_nil, hs, hx, hrun]; exact hK _ _ (H v' w' h5 h6 (by simpa using h7))
end

def scz (k : Z) (ps : List (Int × Z)) : List (Int × Z) := ps.map fun p => (p.1, cz (k.v * p.2.v))
theorem vl_scz (k : Z) (ps : List (Int × Z)) : vl (scz k ps) = sc k.v (vl ps) := by
  simp only [vl, scz, sc, List.map_map]
  apply List.map_congr_left
  intro p _; simp [Function.comp, cz_v]
theorem scz_len (k : Z) (ps : List (Int × Z)) : (scz k ps).length = ps.length := by simp [scz]
theorem scz_step (z : Z) {ps : List (Int × Z)} {k : Nat} (h : k < ps.length) : scz z (ps.take (k + 1)) = scz z (ps.take k) ++ [((pth ps k).1, cz (z.v * (pth ps k).2.v))] := by
  rw [take_pth ps k h]; simp [scz]
theorem nf_scz (k : Z) (t : T) : (⟨scz k t.ps, cz (k.v * t.k.v)⟩ : T).nf = ct (sc k.v (vl t.ps)) (k.v * t.k.v) := by
  show ct (vl (scz k t.ps)) (cz (k.v * t.k.v)).v = _
  rw [vl_scz, cz_v]

set_option maxHeartbeats 1600000 in
theorem rscale5_c {u v : Value} {kz : Z} {t : T} {w : World} {X Y : Nat → Prop} {N : Nat} (hk : Zi w X u kz) (h : Tv w Y v t) (hN : N ≤ 4294967296) (sk : kz.mag.length ≤ N) (hs : t.sz N) :
    Calls Tryz.prog 110 #[u, v] w fun e w' => ∃ r, e = .returned r ∧ Tv w' (w.heap.size ≤ ·) r (ct (sc kz.v (vl t.ps)) (kz.v * t.k.v)) ∧ Ext w w' := by
  have lk := hk.lb; have lt := h.lb
  obtain ⟨s1, s2, s3⟩ := hs; have hzl := zl_vl lt.1 s2; obtain ⟨KA, kc, rfl, hk⟩ := hk; obtain ⟨A, c, B, d, rfl, h1, h2⟩ := h
  go_enter Tryz.func110, Tryz.ntmps110
  go_wp2_with fail
  refine wp_named fun W hW => ?_
  have b2 : Box W w.heap.size 24 #[.bool kz.neg, .slice KA kz.mag.length kc] := by rw [hW]; exact bxt
  have b3 : Box W (w.heap.size + 1) 27 #[.slice A t.ps.length c, .bool t.k.neg, .slice B t.k.mag.length d] := by rw [hW]; exact bxt
  have b4 : Box W (w.heap.size + 1 + 1) 27 #[.slice none 0 0, .bool false, .slice none 0 0] := by rw [hW]; exact bxt
  have hE : Ext w W := by rw [hW]; exact xt
  clear hW; have hWl := b4.lt; have h1b := h1.below
  go_loopw [5, 6] (fun lv iv wr => ∃ k : Nat, k ≤ t.ps.length ∧ iv = .int .i64 k ∧ Own 3 EP wr (W.heap.size ≤ ·) W.heap.size 37 lv (scz kz (t.ps.take k)) ∧ Ext W wr) (fun _ iv _ => t.ps.length - (intOf iv).toNat)
  case atStart => exact ⟨0, Nat.zero_le _, rfl, Own.nil _ _ _ _, Ext.refl _⟩
  case round =>
    obtain ⟨k, hkk, rfl, hO, hxr⟩ := hrel
    have q2 := b2.ext hxr; have q3 := b3.ext hxr; have q4 := b4.ext hxr
    have q2r := q2.rules; have q2l := q2.lt
    have q3r := q3.rules; have q3l := q3.lt
    have hxw := hE.trans hxr; have hrow := hO.row; obtain ⟨A0, c0, rfl, hP0⟩ := Own.sl hO (by omega) (X := fun _ => True) (fun _ _ => trivial); have hP0 : Pl wr (fun _ => True) A0 c0 (scz kz (t.ps.take k)) := hP0
    have hsl : (scz kz (t.ps.take k)).length = k := by rw [scz_len, List.length_take]; omega
    by_cases hlt : k < t.ps.length
    · obtain ⟨b, o, B', d', rfl, hX, hc0, hc1, hc2, hi, hN2⟩ := (h1b.ext hxw).at_ hlt; have hb := World.block_lt_of_cell? _ _ hc0
      have kl : (k : Int) < (t.ps.length : Int) := by omega
      have hpz : (pth t.ps k).2.mag.length ≤ N := s2 _ (pth_mem hlt)
      go_wp2_with fail
      refine wp_region_late [(0, true), (1, true), (2, true), (3, true), (4, true), (5, true), (6, true), (7, true), (8, true), (9, true), (10, true), (11, true), (12, true), (13, true), (14, false), (15, true), (16, false)] [17, 18] rfl (by kernel_rfl) (by intro _ _ d _ _ h; cases d <;> exact h) ?_
      (repeat (refine sh_take (v := ?_) rfl rfl ?_ ?_; rotate_left; (intro w' hx'; have hc' := hx'.cells.1; (try simp only [wcd] at hc'); go_simp; (first | done | with_reducible rfl)); (try simp only [pt])))
      (refine sh_loud rfl rfl fun K hK => ?_; go_simp)
      refine (rmulz_c (x := kz) (y := (pth t.ps k).2) ⟨_, _, rfl, hk.ext (hxw.trans xt)⟩ ⟨_, _, rfl, hN2.ext xt⟩ (by omega) (by omega)).mono ?_; rintro e w1 ⟨r, rfl, ⟨A4, c4, rfl, hN4⟩, hx1⟩
      (have hs1 := Ext.size hx1; (try simp only [wsz] at hs1))
      have hx2 : Ext wr w1 := xt
      (refine hK _ _ xt ?_; clear hK K; (try simp only [pt]))
      (repeat (refine sh_take (v := ?_) rfl rfl ?_ ?_; rotate_left; (intro w' hx'; have hc' := hx'.cells.1; (try simp only [wcd] at hc'); go_simp; (first | done | with_reducible rfl)); (try simp only [pt])))
      (refine sh_loud rfl rfl fun K hK => ?_; go_simp)
      (refine hK _ _ xt ?_; clear hK K; (try simp only [pt]))
      refine sh_done ?_; refine sh_appp1 (.tmp 14) (.tmp 30) (hO.ext hx2) hi (hN4.widen fun q hq _ => ⟨by have := hxr.size; simp only [wsz] at hq; omega, fun e => by have := (hrow _ e).2; simp only [wsz] at hq; omega⟩) (by rw [hsl]; omega) (by have := hxr.size; omega) rfl rfl rfl (by rw [hsl]; rfl) rfl ?_; intro v2 w2 hO2 hg2 hv2
      (try simp only [pt])
      (refine sh_late rfl rfl fun K hK => ?_; go_simp; refine hK _ _ ?_; clear hK K)
      refine sh_end ?_; have hxx : Ext W w2 := (hxr.trans (hx2.alloc _)).grown hg2 (fun j hj => (hrow _ hj).1); rw [← scz_step kz hlt] at hO2
      go_wp2_with fail
      go_roundw
      case rel => exact ⟨k + 1, by omega, by go_num, hO2, hxx⟩
      case measure => simp [intOf] <;> omega
    · obtain rfl : k = t.ps.length := by omega
      rw [List.take_length] at hO hP0 hsl
      go_wp2_with fail
      refine (rmulz_c (x := kz) (y := t.k) ⟨_, _, rfl, hk.ext (hxw.trans xt)⟩ ⟨_, _, rfl, h2.ext (hxw.trans xt)⟩ (by omega) (by omega)).mono ?_; rintro e w1 ⟨r1, rfl, ⟨A1, c1, rfl, hK1⟩, hx1⟩; have hx2 : Ext wr w1 := xt
      go_wp2_with fail
      refine (rnorm5_c (t := ⟨scz kz t.ps, cz (kz.v * t.k.v)⟩) (N := N + N) ⟨_, _, _, _, by simp only [scz_len], (hP0.ext hx2).ext xt, (hK1.widen (Y := fun _ => True) fun _ _ _ => trivial).ext xt⟩ (by omega) ⟨?_, ?_, ?_⟩).mono ?_
      · rw [scz_len]; omega
      · intro p hp; obtain ⟨q, hq, rfl⟩ := List.mem_map.1 hp; have h3 : zl q.2.v ≤ N := hzl (q.1, q.2.v) (List.mem_map.2 ⟨q, hq, rfl⟩)
        show (cz (kz.v * q.2.v)).mag.length ≤ _
        rw [cz_len]; have := zl_mul kz.v q.2.v; have := zl_of lk
        omega
      · show (cz (kz.v * t.k.v)).mag.length ≤ _
        rw [cz_len]; have := zl_mul kz.v t.k.v; have := zl_of lk; have := zl_of lt.2
        omega
      rw [nf_scz]; rintro e w4 ⟨r4, rfl, ⟨A4, c4, B4, d4, rfl, h41, h42⟩, hx4⟩; have hx5 : Ext wr w4 := hx2.trans xt; have g4 := q4.ext hx5; have g4r := g4.rules; have g4l := g4.lt; have hE4 := hxw.trans hx5; have hs3 := (hxr.trans hx2).size; clear q2r q3r
      go_wp2_with fail
      (refine bodyPost_ret (v := ?_) ?_ rfl ?_; rotate_left; (simp only [results, Tryz.results110]; go_simp; (first | done | with_reducible rfl)))
      refine ⟨_, rfl, ⟨_, _, _, _, rfl, (Pl.keep (h41.widen (Y := fun c => w.heap.size + 1 + 1 < c) fun c hc _ => by omega) kpt).widen fun c hc _ => by omega, (Nl.keep (h42.widen (Y := fun c => w.heap.size + 1 + 1 < c) fun c hc _ => by omega) kpt).widen fun c hc _ => by omega⟩, ?_⟩; exact ((hE4.setCell (by simp only; omega) _).setCell (by simp only; omega) _).setCell (by simp only; omega) _

end Go.Proofs.YthmjgbkakjpfkaaGreatDoor

namespace Go.Proofs.YthmjgbkakjpfkaaGreatDoor
open Go.RowKit Go.Shelf

def cmpP (p q : Int × Z) : Int := if p.1 < q.1 then -1 else if q.1 < p.1 then 1 else cmpI p.2.v q.2.v
def cmpL : List (Int × Z) → List (Int × Z) → Int
  | [], [] => 0
  | [], _ :: _ => -1
  | _ :: _, [] => 1
  | p :: l, q :: m => if cmpP p q = 0 then cmpL l m else cmpP p q

set_option maxHeartbeats 800000 in
theorem order1_c {W : World} {X Y : Nat → Prop} {p q : Int × Z} {A B : Option Addr} {c d : Nat} (h1 : Nl W X A c p.2.mag) (h2 : Nl W Y B d q.2.mag) :
    Calls Tryz.prog 119 #[.agg #[.int .i64 p.1, .bool p.2.neg, .slice A p.2.mag.length c], .agg #[.int .i64 q.1, .bool q.2.neg, .slice B q.2.mag.length d]] W fun e w' => e = .returned (.int .i64 (cmpP p q)) ∧ Ext W w' := by
  by_cases h : p.1 < q.1
  · have e1 : cmpP p q = -1 := by unfold cmpP; rw [if_pos h]
    rw [e1]; clear e1
    go_enter Tryz.func119, Tryz.ntmps119
    go_wp2_with fail
    go_ret
    exact ⟨rfl, xt⟩
  · by_cases h' : q.1 < p.1
    · have e1 : cmpP p q = 1 := by unfold cmpP; rw [if_neg h, if_pos h']
      rw [e1]; clear e1
      go_enter Tryz.func119, Tryz.ntmps119
      go_wp2_with fail
      go_ret
      exact ⟨rfl, xt⟩
    · have e1 : cmpP p q = cmpI p.2.v q.2.v := by unfold cmpP; rw [if_neg h, if_neg h']
      rw [e1]; clear e1
      go_enter Tryz.func119, Tryz.ntmps119
      go_wp2_with fail
      refine (zcmp_c (x := p.2) (y := q.2) ⟨_, _, rfl, h1.ext xt⟩ ⟨_, _, rfl, h2.ext xt⟩).mono ?_; rintro e w1 ⟨rfl, hx⟩
      go_wp2_with fail
      go_ret
      exact ⟨rfl, xt⟩

theorem cmpL_step : ∀ (l m : List (Int × Z)) (k : Nat), (∀ i, i < k → ∃ (h : i < l.length) (h' : i < m.length), cmpP l[i] m[i] = 0) → cmpL l m = cmpL (l.drop k) (m.drop k)
  | _, _, 0, _ => rfl
  | [], _, k + 1, h => by obtain ⟨h1, _⟩ := h 0 (by omega); cases h1
  | _ :: _, [], k + 1, h => by obtain ⟨_, h1, _⟩ := h 0 (by omega); cases h1
  | p :: l, q :: m, k + 1, h => by
    obtain ⟨_, _, h0⟩ := h 0 (by omega); have h0 : cmpP p q = 0 := h0
    have ih := cmpL_step l m k fun i hi => by
      obtain ⟨h1, h2, h3⟩ := h (i + 1) (by omega); exact ⟨by simpa using h1, by simpa using h2, h3⟩
    rw [List.drop_succ_cons, List.drop_succ_cons, ← ih]
    conv => lhs; unfold cmpL
    rw [if_pos h0]

set_option maxHeartbeats 1600000 in
theorem cmpf_c {w : World} {X Y : Nat → Prop} {A B : Option Addr} {c d : Nat} {l m : List (Int × Z)} (h : Pl w X A c l) (h' : Pl w Y B d m) :
    Calls Tryz.prog 118 #[.slice A l.length c, .slice B m.length d, .func (.func 119) #[] #[]] w fun e w' => e = .returned (.int .i64 (cmpL l m)) ∧ Ext w w' := by
  have hm := h.2.1; have hlc := h.1
  have hm' := h'.2.1; have hlc' := h'.1
  simp only [maxLen] at hm hm'
  have eg : ∀ args w, (callFunc 119 args).run Tryz.prog w = .ok (.enter 119 args) w := enters_of Tryz.func119 (by kernel_rfl) rfl
  go_enter Tryz.func118, Tryz.ntmps118
  go_wp2_with fail
  go_loopw [13] (fun iv wr => ∃ k : Nat, k ≤ l.length ∧ iv = .int .i64 k ∧ Hid (∀ i, i < k → ∃ (h : i < l.length) (h' : i < m.length), cmpP l[i] m[i] = 0) ∧ Ext w wr) (fun iv _ => l.length - (intOf iv).toNat)
  case atStart => exact ⟨0, Nat.zero_le _, rfl, Lib.hid fun _ h => absurd h (Nat.not_lt_zero _), xt⟩
  case round =>
    obtain ⟨k, hk, rfl, hno, hx⟩ := hrel
    have hkm : k ≤ m.length := by
      rcases Nat.eq_zero_or_pos k with e | e
      · omega
      · obtain ⟨_, h1, _⟩ := hno.out (k - 1) (by omega)
        omega
    by_cases hlt : k < l.length
    · obtain ⟨b, o, B', d', rfl, hX, hc0, hc1, hc2, hi, hN⟩ := (h.ext hx).at_ hlt; have hb := World.block_lt_of_cell? _ _ hc0
      have kl : (k : Int) < (l.length : Int) := by omega
      by_cases hlt' : k < m.length
      · obtain ⟨b', o', B2, d2, rfl, hX', hc0', hc1', hc2', hi', hN'⟩ := (h'.ext hx).at_ hlt'; have hb' := World.block_lt_of_cell? _ _ hc0'
        have kl' : (k : Int) < (m.length : Int) := by omega
        have kl'' : ¬ (m.length : Int) ≤ (k : Int) := by omega
        have hcall := fun (W : World) (hW : Ext wr W) => order1_c (p := pth l k) (q := pth m k) (hN.ext hW) (hN'.ext hW)
        by_cases he : cmpP (pth l k) (pth m k) = 0
        · have e0 : (cmpP (pth l k) (pth m k) != 0) = false := by rw [he]; rfl
          have He := Lib.hid he; clear he
          go_wp2_with (first | (go_at_fn 119; refine (hcall _ xt).mono ?_; rintro e w1 ⟨rfl, hx1⟩) | fail)
          go_roundw
          case rel =>
            refine ⟨k + 1, by omega, by go_num, Lib.hid fun i hik => ?_, hx.trans xt⟩
            by_cases e : i = k
            · subst e; exact ⟨hlt, hlt', by rw [← pth_eq l i hlt, ← pth_eq m i hlt']; exact He.out⟩
            · exact hno.out i (by omega)
          case measure => simp [intOf] <;> omega
        · have e0 : (cmpP (pth l k) (pth m k) != 0) = true := by rw [bne_iff_ne]; exact he
          have He := Lib.hid he; clear he
          go_wp2_with (first | (go_at_fn 119; refine (hcall _ xt).mono ?_; rintro e w1 ⟨rfl, hx1⟩) | fail)
          go_ret
          refine ⟨ret_int ?_, hx.trans xt⟩; rw [cmpL_step l m k hno.out, drop_pth l k hlt, drop_pth m k hlt', cmpL, if_neg He.out]
      · have kl' : (m.length : Int) ≤ (k : Int) := by omega
        go_wp2_with fail
        go_ret
        refine ⟨ret_int ?_, hx.trans xt⟩; have e : m.drop k = [] := List.drop_eq_nil_of_le (by omega); rw [cmpL_step l m k hno.out, drop_pth l k hlt, e]
        rfl
    · obtain rfl : k = l.length := by omega
      have hfin := Lib.hid (show cmpL l m = cmpL [] (m.drop l.length) by rw [cmpL_step l m l.length hno.out, List.drop_length])
      by_cases hlt' : l.length < m.length
      · have kl' : (l.length : Int) < (m.length : Int) := by omega
        go_wp2_with fail
        go_ret
        refine ⟨ret_int ?_, hx.trans xt⟩; rw [hfin.out, drop_pth m _ hlt']
        rfl
      · have kl' : ¬ (l.length : Int) < (m.length : Int) := by omega
        go_wp2_with fail
        go_ret
        refine ⟨ret_int ?_, hx.trans xt⟩; have e : m.drop l.length = [] := List.drop_eq_nil_of_le (by omega); rw [hfin.out, e]
        rfl

end Go.Proofs.YthmjgbkakjpfkaaGreatDoor

namespace Go.Proofs.YthmjgbkakjpfkaaGreatDoor
open Go.RowKit Go.Shelf

def ordT (a b : T) : Int := if cmpL a.nf.ps b.nf.ps = 0 then cmpI a.k.v b.k.v else cmpL a.nf.ps b.nf.ps

set_option maxHeartbeats 1600000 in
theorem torder_c {av bv : Value} {a b : T} {w : World} {X Y : Nat → Prop} {N : Nat} (ha : Tv w X av a) (hb : Tv w Y bv b) (hN : N ≤ 1073741824) (sa : a.sz N) (sb : b.sz N) :
    Calls Tryz.prog 75 #[av, bv] w fun e w' => e = .returned (.int .i64 (ordT a b)) ∧ Ext w w' := by
  have hav := ha; have hbv := hb
  obtain ⟨A, c, AK, d, rfl, ha1, ha2⟩ := ha; obtain ⟨B, c', BK, d', rfl, hb1, hb2⟩ := hb; have hka : a.nf.k = cz a.k.v := rfl; have hkb : b.nf.k = cz b.k.v := rfl; obtain ⟨an, han⟩ : ∃ an, an = a.nf := ⟨_, rfl⟩; obtain ⟨bn, hbn⟩ : ∃ bn, bn = b.nf := ⟨_, rfl⟩; obtain ⟨r, hr⟩ : ∃ r, r = ordT a b := ⟨_, rfl⟩
  have hna := fun W (h : Ext w W) => tnorm_c (hav.ext h) (N := N) (by omega) sa
  have hnb := fun W (h : Ext w W) => tnorm_c (hbv.ext h) (N := N) (by omega) sb
  unfold ordT at hr; rw [← han, ← hbn] at hr; rw [← han] at hna hka; rw [← hbn] at hnb hkb
  have HR := Lib.hid hr; have HA := Lib.hid hka; have HB := Lib.hid hkb
  have hgoal := Lib.hid (show ordT a b = r by rw [hr]; unfold ordT; rw [han, hbn]); rw [hgoal.out]; clear hr hka hkb han hbn hgoal
  go_enter Tryz.func75, Tryz.ntmps75
  go_wp2_with fail
  refine wp_named fun W hW => ?_
  have b2 : Box W (w.heap.size) 27 #[.slice A a.ps.length c, .bool a.k.neg, .slice AK a.k.mag.length d] := by rw [hW]; exact bxt
  have b3 : Box W (w.heap.size + 1) 27 #[.slice B b.ps.length c', .bool b.k.neg, .slice BK b.k.mag.length d'] := by rw [hW]; exact bxt
  have hE : Ext w W := by rw [hW]; exact xt
  have hWs : w.heap.size + 2 ≤ W.heap.size := by rw [hW]; simp
  clear hW; have b2r := b2.rules; have b3r := b3.rules; have b2l := b2.lt; have b3l := b3.lt; refine wp_region_late [(0, true), (2, true), (1, false), (3, false)] [4, 5] rfl (by kernel_rfl) (by intro _ _ d _ _ h; cases d <;> exact h) ?_
  (repeat (refine sh_take (v := ?_) rfl rfl ?_ ?_; rotate_left; (intro w' hx'; have hc' := hx'.cells.1; (try simp only [wcd] at hc'); go_simp; (first | done | with_reducible rfl)); (try simp only [pt])))
  (refine sh_loud rfl rfl fun K hK => ?_; go_simp)
  refine (hna _ (hE.trans xt)).mono ?_; rintro e w1 ⟨r1, rfl, ⟨A1, c1, B1, d1, rfl, h1, h2⟩, hx1⟩
  (have hs1 := Ext.size hx1; (try simp only [wsz] at hs1))
  (refine hK _ _ xt ?_; clear hK K; (try simp only [pt]))
  (refine sh_loud rfl rfl fun K hK => ?_; go_simp)
  refine (hnb _ (hE.trans xt)).mono ?_; rintro e w2 ⟨r2, rfl, ⟨A2, c2, B2, d2, rfl, h3, h4⟩, hx2⟩
  (have hs2 := Ext.size hx2; (try simp only [wsz] at hs2))
  have b2' := (b2.drew.ext hx1).ext hx2; have b3' := (b3.drew.ext hx1).ext hx2; have b2r' := b2'.rules; have b3r' := b3'.rules; have b2l' := b2'.lt; have b3l' := b3'.lt; clear b2r b3r
  (refine hK _ _ xt ?_; clear hK K; (try simp only [pt]))
  refine sh_done ?_
  (refine sh_late rfl rfl fun K hK => ?_; go_simp; refine hK _ _ ?_; clear hK K)
  (refine sh_late rfl rfl fun K hK => ?_; go_simp; refine hK _ _ ?_; clear hK K)
  refine sh_end ?_; have hE2 : Ext w w2 := (hE.trans (Ext.drew (Ext.refl _))).trans (hx1.trans hx2); clear b2r' b3r' b2l b3l; obtain ⟨S, hS⟩ : ∃ S, S = ((((((w2.setCell ⟨w.heap.size, 0, none⟩ (.slice A1 an.ps.length c1)).setCell ⟨w.heap.size, 1, none⟩ (.bool an.k.neg)).setCell ⟨w.heap.size, 2, none⟩ (.slice B1 an.k.mag.length d1)).setCell ⟨w.heap.size + 1, 0, none⟩ (.slice A2 bn.ps.length c2)).setCell ⟨w.heap.size + 1, 1, none⟩ (.bool bn.k.neg)).setCell ⟨w.heap.size + 1, 2, none⟩ (.slice B2 bn.k.mag.length d2)) := ⟨_, rfl⟩
  have b2s : Box S (w.heap.size) 27 #[.slice A1 an.ps.length c1, .bool an.k.neg, .slice B1 an.k.mag.length d1] := by
    rw [hS]; exact ((((((b2'.set_ 0 _).set_ 1 _).set_ 2 _).far (by simp only [ne_eq]; omega) _).far (by simp only [ne_eq]; omega) _).far (by simp only [ne_eq]; omega) _)
  have b3s : Box S (w.heap.size + 1) 27 #[.slice A2 bn.ps.length c2, .bool bn.k.neg, .slice B2 bn.k.mag.length d2] := by
    rw [hS]; exact ((((((b3'.far (by simp only [ne_eq]; omega) _).far (by simp only [ne_eq]; omega) _).far (by simp only [ne_eq]; omega) _).set_ 0 _).set_ 1 _).set_ 2 _)
  have kpS : Kp (w.heap.size + 2 ≤ ·) w2 S := by
    rw [hS]; exact ((((((Kp.refl w2).setCell (by simp only; omega) _).setCell (by simp only; omega) _).setCell (by simp only; omega) _).setCell (by simp only; omega) _).setCell (by simp only; omega) _).setCell (by simp only; omega) _
  have hES : Ext w S := by
    rw [hS]; exact ((((((hE2.setCell (by simp only; omega) _).setCell (by simp only; omega) _).setCell (by simp only; omega) _).setCell (by simp only; omega) _).setCell (by simp only; omega) _).setCell (by simp only; omega) _)
  rw [← hS]; clear hS; have h1s : Pl S (w.heap.size + 2 ≤ ·) A1 c1 an.ps := Pl.keep ((h1.ext hx2).widen fun b hb _ => by simp only [World.size_drew] at hb; omega) kpS; have h2s : Nl S (w.heap.size + 2 ≤ ·) B1 d1 an.k.mag := Nl.keep ((h2.ext hx2).widen fun b hb _ => by simp only [World.size_drew] at hb; omega) kpS; have h3s : Pl S (w.heap.size + 2 ≤ ·) A2 c2 bn.ps := Pl.keep (h3.widen fun b hb _ => by omega) kpS; have h4s : Nl S (w.heap.size + 2 ≤ ·) B2 d2 bn.k.mag := Nl.keep (h4.widen fun b hb _ => by omega) kpS; have b2r := b2s.rules; have b3r := b3s.rules; have b2l := b2s.lt; have b3l := b3s.lt
  by_cases h0 : cmpL an.ps bn.ps = 0
  · have hr : r = cmpI a.k.v b.k.v := by rw [HR.out, if_pos h0]
    have HR2 := Lib.hid hr; have H0 := Lib.hid h0; clear h0 hr
    go_wp2_with fail
    refine (cmpf_c h1s h3s).mono ?_; rw [H0.out]; rintro e w3 ⟨rfl, hx3⟩; have b2t := b2s.ext hx3; have b3t := b3s.ext hx3; have b2tr := b2t.rules; have b3tr := b3t.rules; clear b2r b3r
    go_wp2_with fail
    refine (zcmp_c (x := an.k) (y := bn.k) ⟨_, _, rfl, h2s.ext hx3⟩ ⟨_, _, rfl, h4s.ext hx3⟩).mono ?_; rw [HA.out, HB.out, cz_v, cz_v, ← HR2.out]; rintro e w4 ⟨rfl, hx4⟩
    go_wp2_with fail
    go_ret
    exact ⟨rfl, (hES.trans hx3).trans hx4⟩
  · have hr : r = cmpL an.ps bn.ps := by rw [HR.out, if_neg h0]
    have hne : (r != 0) = true := by rw [bne_iff_ne, hr]; exact h0
    have HR2 := Lib.hid hr; clear h0 hr
    go_wp2_with fail
    refine (cmpf_c h1s h3s).mono ?_; rw [← HR2.out]; rintro e w3 ⟨rfl, hx3⟩
    go_wp2_with fail
    go_ret
    exact ⟨rfl, hES.trans hx3⟩

end Go.Proofs.YthmjgbkakjpfkaaGreatDoor

namespace Go.Proofs.YthmjgbkakjpfkaaGreatDoor

def cmpQ (p q : Int × Int) : Int := if p.1 < q.1 then -1 else if q.1 < p.1 then 1 else cmpI p.2 q.2
def cmpV : List (Int × Int) → List (Int × Int) → Int
  | [], [] => 0
  | [], _ :: _ => -1
  | _ :: _, [] => 1
  | p :: l, q :: m => if cmpQ p q = 0 then cmpV l m else cmpQ p q
theorem cmpL_cl : ∀ (l m : List (Int × Int)), cmpL (cl l) (cl m) = cmpV l m
  | [], [] => rfl
  | [], _ :: _ => rfl
  | _ :: _, [] => rfl
  | p :: l, q :: m => by
    have e : cmpP (p.1, cz p.2) (q.1, cz q.2) = cmpQ p q := by unfold cmpP cmpQ; rw [cz_v, cz_v]
    have ih := cmpL_cl l m
    show (if cmpP (p.1, cz p.2) (q.1, cz q.2) = 0 then cmpL (cl l) (cl m) else cmpP (p.1, cz p.2) (q.1, cz q.2)) = _
    rw [e, ih]; rfl
theorem cmpQ_swap (p q : Int × Int) : cmpQ q p = -cmpQ p q := by
  unfold cmpQ; rw [cmpI_swap]
  split <;> (try split) <;> (try split) <;> omega
theorem cmpQ_zero {p q : Int × Int} : cmpQ p q = 0 ↔ p = q := by
  obtain ⟨a, b⟩ := p; obtain ⟨c, d⟩ := q; unfold cmpQ; simp only [Prod.mk.injEq]; have := cmpI_zero (a := b) (b := d)
  split
  · constructor
    · intro h; omega
    · intro h; omega
  · split
    · constructor
      · intro h; omega
      · intro h; omega
    · rw [this]
      constructor
      · intro h; exact ⟨by omega, h⟩
      · intro h; exact h.2
theorem cmpV_swap : ∀ (l m : List (Int × Int)), cmpV m l = -cmpV l m
  | [], [] => rfl
  | [], _ :: _ => rfl
  | _ :: _, [] => rfl
  | p :: l, q :: m => by
    have h := cmpQ_swap p q; have ih := cmpV_swap l m; unfold cmpV
    by_cases e : cmpQ p q = 0
    · rw [if_pos e, if_pos (by omega), ih]
    · rw [if_neg e, if_neg (by omega), h]
theorem cmpV_zero : ∀ {l m : List (Int × Int)}, cmpV l m = 0 ↔ l = m
  | [], [] => by simp [cmpV]
  | [], _ :: _ => by simp [cmpV]
  | _ :: _, [] => by simp [cmpV]
  | p :: l, q :: m => by
    have h := cmpQ_zero (p := p) (q := q); have ih := cmpV_zero (l := l) (m := m); unfold cmpV; rw [List.cons.injEq]
    by_cases e : cmpQ p q = 0
    · rw [if_pos e, ih]; exact ⟨fun h1 => ⟨h.1 e, h1⟩, fun h1 => h1.2⟩
    · rw [if_neg e]; exact ⟨fun h1 => absurd h1 e, fun h1 => absurd (h.2 h1.1) e⟩
theorem ordT_eq (a b : T) : ordT a b = if cmpV (cn (vl a.ps)) (cn (vl b.ps)) = 0 then cmpI a.k.v b.k.v else cmpV (cn (vl a.ps)) (cn (vl b.ps)) := by
  unfold ordT
  have e : ∀ t : T, t.nf.ps = cl (cn (vl t.ps)) := fun _ => rfl
  rw [e, e, cmpL_cl]
theorem ordT_swap (a b : T) : ordT b a = -ordT a b := by
  rw [ordT_eq, ordT_eq, cmpV_swap (cn (vl a.ps)), cmpI_swap a.k.v]
  by_cases e : cmpV (cn (vl a.ps)) (cn (vl b.ps)) = 0
  · rw [if_pos e, if_pos (by omega)]
  · rw [if_neg e, if_neg (by omega)]
theorem ordT_zero {a b : T} : ordT a b = 0 ↔ cn (vl a.ps) = cn (vl b.ps) ∧ a.k.v = b.k.v := by
  rw [ordT_eq]
  by_cases e : cmpV (cn (vl a.ps)) (cn (vl b.ps)) = 0
  · rw [if_pos e, cmpI_zero]; exact ⟨fun h => ⟨cmpV_zero.1 e, h⟩, fun h => h.2⟩
  · rw [if_neg e]; exact ⟨fun h => absurd h e, fun h => absurd (cmpV_zero.2 h.1) e⟩
theorem ordT_bd (a b : T) : -1 ≤ ordT a b ∧ ordT a b ≤ 1 := by
  have key : ∀ l m, -1 ≤ cmpV l m ∧ cmpV l m ≤ 1 := by
    intro l
    induction l with
    | nil => intro m; cases m <;> simp [cmpV]
    | cons p l ih =>
      intro m
      cases m with
      | nil => simp [cmpV]
      | cons q m =>
        unfold cmpV
        split
        · exact ih m
        · unfold cmpQ; have := cmpI_bd p.2 q.2
          split <;> (try split) <;> omega
  rw [ordT_eq]; have h1 := key (cn (vl a.ps)) (cn (vl b.ps)); have h2 := cmpI_bd a.k.v b.k.v
  split <;> omega
end Go.Proofs.YthmjgbkakjpfkaaGreatDoor

namespace Go.Proofs.YthmjgbkakjpfkaaGreatDoor
open Go.RowKit

def Ku (H g : Nat) (w w' : World) : Prop := ∀ b o, b ≠ g → b < H → (∃ x, w.cell? ⟨b, o, none⟩ = some (.int .u32 x)) → (∃ y, w'.cell? ⟨b, o, none⟩ = some (.int .u32 y)) ∧ w'.frozen? ⟨b, o, none⟩ = w.frozen? ⟨b, o, none⟩
structure Ov (B H g i : Nat) (w wr : World) : Prop where
  bl : Below B w wr
  kp : Kp (H ≤ ·) w wr
  ku : Ku H g w wr
  row : ∀ j, i * 3 ≤ j → wr.cell? ⟨g, j, none⟩ = w.cell? ⟨g, j, none⟩
  frz : ∀ j, wr.frozen? ⟨g, j, none⟩ = w.frozen? ⟨g, j, none⟩
  size : w.heap.size ≤ wr.heap.size

section
variable {B H g i : Nat} {w wr : World}
theorem Ov.refl (w : World) : Ov B H g 0 w w := ⟨Below.refl _ _, Kp.refl _, fun _ _ _ _ h => ⟨h, rfl⟩, fun _ _ => rfl, fun _ => rfl, Nat.le_refl _⟩
theorem Ov.set9 (h : Ov B H g i w wr) {b o : Nat} {y : Int} (h1 : b ≠ g) (h2 : B ≤ b) (h3 : b < H) (hc : ∃ x, wr.cell? ⟨b, o, none⟩ = some (.int .u32 x)) : Ov B H g i w (wr.setCell ⟨b, o, none⟩ (.int .u32 y)) := by
  refine ⟨h.bl.setCell h2 _, h.kp.setCell (by simp only; omega) _, fun b' o' k1 k2 k3 => ?_, fun j hj => ?_, fun j => ?_, by simpa using h.size⟩
  · obtain ⟨⟨x, hx⟩, hf⟩ := h.ku b' o' k1 k2 k3; refine ⟨?_, by rw [World.frozen?_setCell]; exact hf⟩
    by_cases e : (⟨b', o', none⟩ : Addr) = ⟨b, o, none⟩
    · rw [e]; obtain ⟨x', hx'⟩ := hc; exact ⟨y, World.cell?_setCell_same' _ _ _ (by rw [hx']; rfl)⟩
    · exact ⟨x, by rw [World.cell?_setCell_other _ _ _ _ (fun h => e h.symm)]; exact hx⟩
  · rw [World.cell?_setCell_other _ _ _ _ (fun e => by injection e with e1; exact h1 e1)]; exact h.row j hj
  · rw [World.frozen?_setCell]; exact h.frz j
theorem Ov.setg (h : Ov B H g i w wr) {o : Nat} {u : Value} {i' : Nat} (h2 : B ≤ g) (h3 : g < H) (hi : i ≤ i') (ho : o < i' * 3) : Ov B H g i' w (wr.setCell ⟨g, o, none⟩ u) := by
  refine ⟨h.bl.setCell h2 _, h.kp.setCell (by simp only; omega) _, fun b' o' k1 k2 k3 => ?_, fun j hj => ?_, fun j => ?_, by simpa using h.size⟩
  · obtain ⟨⟨x, hx⟩, hf⟩ := h.ku b' o' k1 k2 k3; refine ⟨⟨x, ?_⟩, by rw [World.frozen?_setCell]; exact hf⟩
    rw [World.cell?_setCell_other _ _ _ _ (fun e => by injection e with e1; exact k1 e1.symm)]; exact hx
  · rw [World.cell?_setCell_other _ _ _ _ (fun e => by injection e with e1 e2; omega)]; exact h.row j (by omega)
  · rw [World.frozen?_setCell]; exact h.frz j
end

def Lm (w : World) (B H g : Nat) (D : Option Addr) (n : Nat) : Prop :=
  n ≤ maxLen ∧ (0 < n → ∃ b o, D = some ⟨b, o, none⟩ ∧ B ≤ b ∧ b ≠ g ∧ b < H ∧ ∀ j, j < n → (∃ x, w.cell? ⟨b, o + j, none⟩ = some (.int .u32 x)) ∧ w.frozen? ⟨b, o + j, none⟩ = false)
theorem Lm.of_nl {w : World} {B E g : Nat} {D : Option Addr} {d : Nat} {l : List Nat} (h : Nl w (fun b => (B ≤ b ∧ b < E) ∧ b ≠ g) D d l) : Lm w B E g D l.length := by
  refine ⟨Nat.le_trans h.1 h.2.1, fun h0 => ?_⟩; obtain ⟨b, o, hA, ⟨⟨hX1, hX3⟩, hX2⟩, hc, -⟩ := h.at_ h0; refine ⟨b, o, hA, hX1, hX2, hX3, fun j hj => ⟨⟨_, hc j hj⟩, h.2.2.2 b o hA j (by omega)⟩⟩
theorem Lm.zero (w : World) (B H g : Nat) (D : Option Addr) : Lm w B H g D 0 := ⟨Nat.zero_le _, fun h => absurd h (Nat.lt_irrefl _)⟩

theorem Lm.ext {w w' : World} {B H g : Nat} {D : Option Addr} {n : Nat} (h : Lm w B H g D n) (hx : Ext w w') (hH : H ≤ w.heap.size) : Lm w' B H g D n := by
  refine ⟨h.1, fun h0 => ?_⟩; obtain ⟨b, o, h1, h2, h3, h4, h5⟩ := h.2 h0; refine ⟨b, o, h1, h2, h3, h4, fun j hj => ?_⟩; obtain ⟨⟨x, hx1⟩, hf⟩ := h5 j hj; exact ⟨⟨x, (hx.cells.1 b _ (by omega)).trans hx1⟩, (hx.cells.2 b _ (by omega)).trans hf⟩

end Go.Proofs.YthmjgbkakjpfkaaGreatDoor

namespace Go.Proofs.YthmjgbkakjpfkaaGreatDoor
open Go.RowKit Go.Shelf

end Go.Proofs.YthmjgbkakjpfkaaGreatDoor
