/- Eval, said case by case; sizes of sums. No conditions. -/
import Derived.Test.YtbblgjjomgipfaaAwake
namespace Go.Proofs.Ytbblgjjomgipfaa
open Go.RowKit Go.Shelf

set_option maxHeartbeats 400000 in
theorem teval_yes {v : Value} {t : T} {w : World} {X Y : Nat → Prop} {A : Option Addr} {c : Nat} {vals : List (Int × Z)} {N : Nat} (h : Tv w X v t) (hv : Pl w Y A c vals) (hN : N ≤ 1073741824) (hs : t.sz N) (hvs : ∀ p ∈ vals, p.2.mag.length ≤ N) (hc : cov vals (cn (vl t.ps)) = true) :
    Calls Try.prog 21 #[v, .slice A vals.length c] w fun e w' => ∃ B d, e = .returned (.tuple #[.agg #[.bool (cz (t.k.v + ev (fv vals) (vl t.ps))).neg, .slice B (cz (t.k.v + ev (fv vals) (vl t.ps))).mag.length d], .int .i64 0]) ∧
      Nl w' (w.heap.size ≤ ·) B d (cz (t.k.v + ev (fv vals) (vl t.ps))).mag ∧ Ext w w' :=
  (teval_c h hv hN hs hvs).mono fun e w' ⟨h1, h2⟩ => by
    unfold EvR at h1
    rw [if_pos hc] at h1
    obtain ⟨r, rfl, B, d, rfl, h3⟩ := h1
    exact ⟨B, d, rfl, h3, h2⟩
set_option maxHeartbeats 400000 in
theorem teval_no {v : Value} {t : T} {w : World} {X Y : Nat → Prop} {A : Option Addr} {c : Nat} {vals : List (Int × Z)} {N : Nat} (h : Tv w X v t) (hv : Pl w Y A c vals) (hN : N ≤ 1073741824) (hs : t.sz N) (hvs : ∀ p ∈ vals, p.2.mag.length ≤ N) (hc : cov vals (cn (vl t.ps)) = false) :
    Calls Try.prog 21 #[v, .slice A vals.length c] w fun e w' => e = .returned (.tuple #[.agg #[.bool false, .slice none 0 0], .int .i64 170]) ∧ Ext w w' :=
  (teval_c h hv hN hs hvs).mono fun e w' ⟨h1, h2⟩ => by
    unfold EvR at h1
    rw [if_neg (by rw [hc]; simp)] at h1
    exact ⟨h1, h2⟩
set_option maxHeartbeats 400000 in
theorem teval_any {v : Value} {t : T} {w : World} {X Y : Nat → Prop} {A : Option Addr} {c : Nat} {vals : List (Int × Z)} {N : Nat} (h : Tv w X v t) (hv : Pl w Y A c vals) (hN : N ≤ 1073741824) (hs : t.sz N) (hvs : ∀ p ∈ vals, p.2.mag.length ≤ N) :
    Calls Try.prog 21 #[v, .slice A vals.length c] w fun e w' => ∃ b B n d x, e = .returned (.tuple #[.agg #[.bool b, .slice B n d], .int .i64 x]) ∧ Ext w w' :=
  (teval_c h hv hN hs hvs).mono fun e w' ⟨h1, h2⟩ => by
    unfold EvR at h1
    split at h1
    · obtain ⟨r, rfl, B, d, rfl, h3⟩ := h1
      exact ⟨_, _, _, _, _, rfl, h2⟩
    · exact ⟨_, _, _, _, _, h1, h2⟩

theorem cov_app {vals : List (Int × Z)} {l m : List (Int × Int)} (hl : cov vals (cn l) = true) (hm : cov vals (cn m) = true) : cov vals (cn (l ++ m)) = true := by
  have := cov_sum (k := 1) (j := 1) hl hm
  rwa [sc_one, sc_one] at this
theorem cov_sc {vals : List (Int × Z)} {l : List (Int × Int)} (k : Int) (hl : cov vals (cn l) = true) : cov vals (cn (sc k l)) = true := by
  have := cov_sum (k := k) (j := 0) hl (m := []) (by rfl)
  simpa [sc] using this
set_option maxHeartbeats 400000 in
/-- Of a canonical term. -/
theorem teval_ct {v : Value} {l : List (Int × Int)} {m S : Int} {w : World} {X Y : Nat → Prop} {A : Option Addr} {c : Nat} {vals : List (Int × Z)} {N : Nat} (h : Tv w X v (ct l m)) (hv : Pl w Y A c vals) (hN : N ≤ 1073741824) (hs : (ct l m).sz N) (hvs : ∀ p ∈ vals, p.2.mag.length ≤ N)
    (hc : cov vals (cn l) = true) (hS : m + ev (fv vals) l = S) :
    Calls Try.prog 21 #[v, .slice A vals.length c] w fun e w' => ∃ B d, e = .returned (.tuple #[.agg #[.bool (cz S).neg, .slice B (cz S).mag.length d], .int .i64 0]) ∧ Nl w' (w.heap.size ≤ ·) B d (cz S).mag ∧ Ext w w' := by
  have := teval_yes h hv hN hs hvs (by rw [vl_ct, cn_cn]; exact hc)
  rw [vl_ct, kv_ct, ev_cn, hS] at this
  exact this
theorem sums_add {vals : List (Int × Z)} {t u : T} {ex ey : Int} (hx : ex = t.k.v + ev (fv vals) (vl t.ps)) (hy : ey = u.k.v + ev (fv vals) (vl u.ps)) : (t.k.v + u.k.v) + ev (fv vals) (vl t.ps ++ vl u.ps) = ex + ey := by
  rw [ev_append]; omega
theorem sums_sub {vals : List (Int × Z)} {t u : T} {ex ey : Int} (hx : ex = t.k.v + ev (fv vals) (vl t.ps)) (hy : ey = u.k.v + ev (fv vals) (vl u.ps)) : (t.k.v - u.k.v) + ev (fv vals) (vl t.ps ++ sc (-1) (vl u.ps)) = ex - ey := by
  rw [ev_append, ev_sc]; omega
theorem sums_mul {vals : List (Int × Z)} {t : T} {ex : Int} (k : Int) (hx : ex = t.k.v + ev (fv vals) (vl t.ps)) : k * t.k.v + ev (fv vals) (sc k (vl t.ps)) = k * ex := by
  rw [ev_sc, hx, Int.mul_add]
theorem ev_sz {vals : List (Int × Z)} {t : T} {N : Nat} (hb : t.lb) (hs : t.sz N) (hvb : ∀ p ∈ vals, Lb p.2.mag) (hv : ∀ p ∈ vals, p.2.mag.length ≤ N) : zl (t.k.v + ev (fv vals) (vl t.ps)) ≤ 3 * N + 1 := by
  have h1 := ev_zl (k := t.ps.length) hvb hv (zl_vl hb.1 hs.2.1) hs.1
  rw [List.take_length] at h1
  have h2 := zl_of hb.2
  have h3 := hs.2.2
  exact zl_add (k := 3 * N) (by omega) (by omega)
theorem sz_add {t u : T} {N : Nat} (bt : t.lb) (bu : u.lb) (st : t.sz N) (su : u.sz N) : (ct (vl t.ps ++ vl u.ps) (t.k.v + u.k.v)).sz (3 * N + 1) := by
  have h1 := zl_of bt.2; have h2 := zl_of bu.2; have h3 := st.2.2; have h4 := su.2.2
  have := ct_sz (l := vl t.ps ++ vl u.ps) (k := t.k.v + u.k.v) (N := 2 * N) (M := N + 1) (by rw [List.length_append, vl_len, vl_len]; have := st.1; have := su.1; omega)
    (fun p hp => by rcases List.mem_append.1 hp with hp | hp; exact Nat.le_trans (zl_vl bt.1 st.2.1 p hp) (by omega); exact Nat.le_trans (zl_vl bu.1 su.2.1 p hp) (by omega)) (Nat.le_trans (zl_add (k := N) (by omega) (by omega)) (by omega))
  exact this.mono (by omega)
theorem sz_sub {t u : T} {N : Nat} (bt : t.lb) (bu : u.lb) (st : t.sz N) (su : u.sz N) : (ct (vl t.ps ++ sc (-1) (vl u.ps)) (t.k.v - u.k.v)).sz (3 * N + 4) := by
  have h1 := zl_of bt.2; have h2 := zl_of bu.2; have h3 := st.2.2; have h4 := su.2.2
  have h0 : zl (-1) ≤ 2 := zl_word (by omega)
  have hk : zl (t.k.v - u.k.v) ≤ N + 1 := by
    have : t.k.v - u.k.v = t.k.v + -u.k.v := by omega
    rw [this]
    refine zl_add (k := N) (by omega) ?_
    have : zl (-u.k.v) = zl u.k.v := by unfold zl; rw [Int.natAbs_neg]
    omega
  have := ct_sz (l := vl t.ps ++ sc (-1) (vl u.ps)) (k := t.k.v - u.k.v) (N := 2 * N) (M := 2 + N) (by rw [List.length_append, sc_len, vl_len, vl_len]; have := st.1; have := su.1; omega)
    (fun p hp => by rcases List.mem_append.1 hp with hp | hp; exact Nat.le_trans (zl_vl bt.1 st.2.1 p hp) (by omega); exact zl_sc h0 (zl_vl bu.1 su.2.1) p hp) (by omega)
  exact this.mono (by omega)
theorem sz_mul {t : T} {k : Z} {N : Nat} (bk : Lb k.mag) (bt : t.lb) (sk : k.mag.length ≤ N) (st : t.sz N) : (ct (sc k.v (vl t.ps)) (k.v * t.k.v)).sz (3 * N) := by
  have h1 := zl_of bt.2; have h2 := zl_of bk; have h3 := st.2.2
  have := ct_sz (l := sc k.v (vl t.ps)) (k := k.v * t.k.v) (N := N) (M := N + N) (by rw [sc_len, vl_len]; exact st.1) (zl_sc (by omega) (zl_vl bt.1 st.2.1)) (Nat.le_trans (zl_mul _ _) (by omega))
  exact this.mono (by omega)

end Go.Proofs.Ytbblgjjomgipfaa
