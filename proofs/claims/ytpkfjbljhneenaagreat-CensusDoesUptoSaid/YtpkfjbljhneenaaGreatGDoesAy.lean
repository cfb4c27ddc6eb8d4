/- Arguments opened: wanted sets, what is asked. No conditions. -/
import Derived.Test.YtpkfjbljhneenaaGreatGDoesAd
import Derived.Test.YtpkfjbljhneenaaGreatGDoesAx
namespace Go.Proofs.YtpkfjbljhneenaaGreat
open Go.RowKit Go.Deep Go.ChangeShapes Go.WideShapes

theorem Mk.sz.mono {m : Mk} {N M : Nat} (h : m.sz N) (hk : N ≤ M) : m.sz M := ⟨h.1, h.2.1, h.2.2.1, Nat.le_trans h.2.2.2.1 hk, Nat.le_trans h.2.2.2.2 hk⟩
section
variable {H : Type} {enc : TypeId × Value → H} {w : World}
theorem len4 {α : Type} {l : List α} (h : l.length = 4) : ∃ a b c d, l = [a, b, c, d] := by
 match l, h with
 | [a, b, c, d], _ => exact ⟨a, b, c, d, rfl⟩
theorem len5 {α : Type} {l : List α} (h : l.length = 5) : ∃ a b c d e, l = [a, b, c, d, e] := by
 match l, h with
 | [a, b, c, d, e], _ => exact ⟨a, b, c, d, e, rfl⟩
theorem len7 {α : Type} {l : List α} (h : l.length = 7) : ∃ a b c d e f g, l = [a, b, c, d, e, f, g] := by
 match l, h with
 | [a, b, c, d, e, f, g], _ => exact ⟨a, b, c, d, e, f, g, rfl⟩
theorem open_i {fuel : Nat} {cs : List Value} {x : DataW H × List MemPlace} (h : DataW.trod enc Tryz.prog w 0 (fun _ => true) true fuel 3 cs = some x) : ∃ v : Int, cs = [.int .i64 v] ∧ i64 v := by
 obtain ⟨v, hv, _, hw⟩ := DataW.trod_int Tryz.underlying3 h; simp [Lit.wf, IntKind.min, IntKind.max, IntKind.signed, IntKind.bits] at hw; exact ⟨v, hv, ⟨by omega, by omega⟩⟩
theorem open_mk {t : TypeId} {f0 f1 f2 f3 f4 : Field} {fuel : Nat} {cs : List Value} {x : DataW H × List MemPlace} (ht : Tryz.prog.underlying t = some (.struct #[f0, f1, f2, f3, f4])) (hC : Tryz.prog.cellsOf t = 7) (o0 : f0.offset = 0) (o1 : f1.offset = 1) (o2 : f2.offset = 2) (o3 : f3.offset = 3) (o4 : f4.offset = 5)
  (t0 : f0.type = 3) (t1 : f1.type = 3) (t2 : f2.type = 3) (t3 : f3.type = 25) (t4 : f4.type = 25) (h : DataW.trod enc Tryz.prog w 0 (fun _ => true) true fuel t cs = some x) (hz : w.noneFrozen x.2) :
  ∃ m : Mk, EM w (· < w.heap.size) cs m ∧ m.sz (Rows.uptoBulk x.1) := by
 obtain ⟨xs, n, _, hx, hlen, hxl, hf⟩ := DataW.trod_struct ht h; obtain ⟨y0, y1, y2, y3, y4, rfl⟩ := len5 (hxl.trans rfl)
 have h0 := hf 0 f0 rfl; have h1 := hf 1 f1 rfl; have h2 := hf 2 f2 rfl; have h3 := hf 3 f3 rfl; have h4 := hf 4 f4 rfl
 have z3 : w.noneFrozen y3.2 := fun b o hm => hz b o (by rw [hx]; simp [hm])
 have z4 : w.noneFrozen y4.2 := fun b o hm => hz b o (by rw [hx]; simp [hm])
 rw [hC] at hlen; obtain ⟨c0, c1, c2, c3, c4, c5, c6, rfl⟩ := len7 hlen; rw [o0, t0, c_int] at h0; rw [o1, t1, c_int] at h1; rw [o2, t2, c_int] at h2; rw [o3, t3, c_z] at h3; rw [o4, t4, c_z] at h4; simp only [List.drop_zero, List.drop_succ_cons, List.take_succ_cons, List.take_zero] at h0 h1 h2 h3 h4; obtain ⟨v0, e0, i0⟩ := open_i h0; obtain ⟨v1, e1, i1⟩ := open_i h1; obtain ⟨v2, e2, i2⟩ := open_i h2; obtain ⟨A, c, k, e3, hN3, hb3⟩ := open_zc h3 z3; obtain ⟨B, d, q, e4, hN4, hb4⟩ := open_zc h4 z4
 injection e0 with e0
 injection e1 with e1
 injection e2 with e2
 injection e3 with e3 e3'
 injection e3' with e3'
 injection e4 with e4 e4'
 injection e4' with e4'
 subst e0; subst e1; subst e2; subst e3; subst e3'; subst e4; subst e4'
 have hb : Rows.uptoBulk x.1 = Rows.uptoBulk y0.1 + (Rows.uptoBulk y1.1 + (Rows.uptoBulk y2.1 + (Rows.uptoBulk y3.1 + (Rows.uptoBulk y4.1 + 0)))) + 1 := by
  rw [hx]; rfl
 exact ⟨⟨v0, v1, v2, k, q⟩, ⟨A, c, B, d, rfl, hN3, hN4⟩, i0, i1, i2, by simp only; omega, by simp only; omega⟩
theorem open_lk {t : TypeId} {f0 f1 f2 f3 : Field} {fuel : Nat} {cs : List Value} {x : DataW H × List MemPlace} (ht : Tryz.prog.underlying t = some (.struct #[f0, f1, f2, f3])) (hC : Tryz.prog.cellsOf t = 7) (o0 : f0.offset = 0) (o1 : f1.offset = 1) (o2 : f2.offset = 3) (o3 : f3.offset = 5)
  (t0 : f0.type = 3) (t1 : f1.type = 25) (t2 : f2.type = 25) (t3 : f3.type = 25) (h : DataW.trod enc Tryz.prog w 0 (fun _ => true) true fuel t cs = some x) (hz : w.noneFrozen x.2) :
  ∃ (i : Int) (a b c : Z), Lv w (· < w.heap.size) (.agg cs.toArray) i a b c ∧ i64 i ∧ a.mag.length ≤ Rows.uptoBulk x.1 ∧ b.mag.length ≤ Rows.uptoBulk x.1 ∧ c.mag.length ≤ Rows.uptoBulk x.1 := by
 obtain ⟨xs, n, _, hx, hlen, hxl, hf⟩ := DataW.trod_struct ht h; obtain ⟨y0, y1, y2, y3, rfl⟩ := len4 (hxl.trans rfl)
 have h0 := hf 0 f0 rfl; have h1 := hf 1 f1 rfl; have h2 := hf 2 f2 rfl; have h3 := hf 3 f3 rfl
 have z1 : w.noneFrozen y1.2 := fun b o hm => hz b o (by rw [hx]; simp [hm])
 have z2 : w.noneFrozen y2.2 := fun b o hm => hz b o (by rw [hx]; simp [hm])
 have z3 : w.noneFrozen y3.2 := fun b o hm => hz b o (by rw [hx]; simp [hm])
 rw [hC] at hlen; obtain ⟨c0, c1, c2, c3, c4, c5, c6, rfl⟩ := len7 hlen; rw [o0, t0, c_int] at h0; rw [o1, t1, c_z] at h1; rw [o2, t2, c_z] at h2; rw [o3, t3, c_z] at h3; simp only [List.drop_zero, List.drop_succ_cons, List.take_succ_cons, List.take_zero] at h0 h1 h2 h3; obtain ⟨v0, e0, i0⟩ := open_i h0; obtain ⟨A1, b1, k1, e1, hN1, hb1⟩ := open_zc h1 z1; obtain ⟨A2, b2, k2, e2, hN2, hb2⟩ := open_zc h2 z2; obtain ⟨A3, b3, k3, e3, hN3, hb3⟩ := open_zc h3 z3
 injection e0 with e0
 injection e1 with e1 e1'
 injection e1' with e1'
 injection e2 with e2 e2'
 injection e2' with e2'
 injection e3 with e3 e3'
 injection e3' with e3'
 subst e0; subst e1; subst e1'; subst e2; subst e2'; subst e3; subst e3'
 have hb : Rows.uptoBulk x.1 = Rows.uptoBulk y0.1 + (Rows.uptoBulk y1.1 + (Rows.uptoBulk y2.1 + (Rows.uptoBulk y3.1 + 0))) + 1 := by
  rw [hx]; rfl
 exact ⟨v0, k1, k2, k3, ⟨A1, b1, A2, b2, A3, b3, rfl, hN1, hN2, hN3⟩, i0, by omega, by omega, by omega⟩

variable {base : Nat} {v : Value} {d : DataW H} {p : List MemPlace}
set_option maxRecDepth 100000 in
theorem open_ms (hv : Value.okWide Tryz.prog w .any base 22 v) (h : DataW.Trod enc Tryz.prog w 0 (fun _ => true) true 22 v d p) (hz : w.noneFrozen p) :
  ∃ A c, ∃ l : List Mk, v = .slice A l.length c ∧ Ms w (· < w.heap.size) A c l ∧ ∀ m ∈ l, m.sz (Rows.uptoBulk d) := by
 obtain ⟨A, n, c, rfl⟩ := okWide_slice Tryz.underlying22 hv; obtain ⟨m, hm⟩ := h
 obtain ⟨A', c', l, hs, hP, hb, hb1⟩ := open_sl (E := EM) (R := fun d (m : Mk) => m.sz (Rows.uptoBulk d)) (sz := 7) Tryz.underlying22 (by kernel_rfl) (by omega)
  (fun n cs' y hy hz => open_mk Tryz.underlying58 (by kernel_rfl) rfl rfl rfl rfl rfl rfl rfl rfl rfl rfl hy hz) hm hz
 have hs : [Value.slice A n c] = [.slice A' l.length c'] := hs
 injection hs with hs
 rw [hs]
 exact ⟨A', c', l, rfl, hP, fun m hm => by
  obtain ⟨d', ⟨h1, h2, h3, h4, h5⟩, h6⟩ := hb1 m hm
  exact ⟨h1, h2, h3, Nat.le_trans h4 h6, Nat.le_trans h5 h6⟩⟩
set_option maxRecDepth 100000 in
theorem open_look (hv : Value.okWide Tryz.prog w .any base 27 v) (h : DataW.Trod enc Tryz.prog w 0 (fun _ => true) true 27 v d p) (hz : w.noneFrozen p) :
  ∃ (i : Int) (a b c : Z), Lv w (· < w.heap.size) v i a b c ∧ i64 i ∧ a.mag.length ≤ Rows.uptoBulk d ∧ b.mag.length ≤ Rows.uptoBulk d ∧ c.mag.length ≤ Rows.uptoBulk d := by
 obtain ⟨cs, rfl, hsize⟩ := okWide_struct Tryz.underlying27 hv; obtain ⟨n, hn⟩ := h; have := open_lk Tryz.underlying27 (by kernel_rfl) rfl rfl rfl rfl rfl rfl rfl rfl hn hz
 simpa [Value.cells] using this
end

end Go.Proofs.YtpkfjbljhneenaaGreat
