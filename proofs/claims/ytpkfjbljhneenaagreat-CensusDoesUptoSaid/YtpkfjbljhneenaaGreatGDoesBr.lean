/- riddlelaw19.CensusDoes, called. No conditions. -/
import Derived.Test.YtpkfjbljhneenaaGreatGDoesBo
import Derived.Test.YtpkfjbljhneenaaGreatGDoesAx
namespace Go.Proofs.YtpkfjbljhneenaaGreat
open Go.RowKit Go.Shelf

theorem no_tab : (Tryz.prog.globalNamed "internal/strconv.uint64pow10").isSome = false := by kernel_rfl
theorem relD_look {w : World} {X : Nat → Prop} {v : Value} {i : Int} {x y z : Z} (h : Lv w X v i x y z) (hi : i64 i) : RelD w X v (.g (.i .i64 i :: (dZ x ++ dZ y ++ dZ z))) := by
 obtain ⟨A, a, B, b, C, c, rfl, nx, ny, nz⟩ := h; exact ⟨_, rfl, .cons (.i (by simp only [z_min]; exact hi.1) (by simp only [z_min]; exact hi.2)) (.cons .b (.cons (rp_n.2 ⟨A, a, rfl, nx⟩) (.cons .b (.cons (rp_n.2 ⟨B, b, rfl, ny⟩) (.cons .b (.cons (rp_n.2 ⟨C, c, rfl, nz⟩) .nil))))))⟩
theorem relD_ms' {w : World} {X : Nat → Prop} {A : Option Addr} {c N : Nat} {ms : List Mk} (h : Ms w X A c ms) (hsz : ∀ m ∈ ms, m.sz N) : RelD w X (.slice A ms.length c) (.c (.l (ms.map dM))) := by
 have h3 : Sl 7 (fun w X cs (m : Mk) => EM w X cs m ∧ m.sz N) w X A c ms := ⟨h.1, h.2.1, fun h0 => by
  obtain ⟨b, o, e1, e2, e3⟩ := h.2.2.1 h0
  exact ⟨b, o, e1, e2, fun i hi => by
   obtain ⟨cs, q1, q2, q3⟩ := e3 i hi
   exact ⟨cs, q1, q2, q3, hsz _ (List.getElem_mem hi)⟩⟩, h.2.2.2⟩
 exact Rp.to_enc (by omega) (fun cs m ⟨h4, h5⟩ => ed_m.2 ⟨h4, h5.1, h5.2.1, h5.2.2.1⟩) h3
theorem lawdoes_c {ms : List Mk} {v : Value} {i : Int} {x y z : Z} {w : World} {X Y : Nat → Prop} {A : Option Addr} {c N : Nat} (hm : Ms w X A c ms) (hl : Lv w Y v i x y z) (hN : 2 ≤ N) (hN2 : N ≤ 1048576) (hsz : ∀ m ∈ ms, m.sz N) (hi : i64 i) (hx : x.mag.length ≤ N) (hy : y.mag.length ≤ N) :
  Calls Tryz.prog 3 #[.slice A ms.length c, v] w fun e w' => e = .returned (.bool true) ∧ Ext w w' := by
 obtain ⟨hpos, hl13, hok⟩ := build_ok hm (by omega) hsz; have hml := Nat.le_trans hm.1 hm.2.1; simp only [maxLen] at hml; exact law_of (does_v ms i x y z N hN hN2 hsz (mk_zl hm (by omega) hsz) hml hi hx hy hpos hl13 fun s hs => (hok s hs).1) (fun h => by rw [no_tab] at h; cases h) (.cons ⟨X, relD_ms' hm hsz⟩ (.cons ⟨Y, relD_look hl hi⟩ .nil))

end Go.Proofs.YtpkfjbljhneenaaGreat
