/- riddlelaw19.CensusFinds. No conditions. -/
import Derived.Test.YtpkfjbljhneenaaGreatGDoesAt
import Derived.Test.YtpkfjbljhneenaaGreatGDoesAk
import Derived.Test.YtpkfjbljhneenaaGreatGDoesAw
import Derived.BigRegion
import Derived.RegionTactic
import Derived.ChangeAlike
import Derived.Lib.SliceRun
namespace Go.Proofs.YtpkfjbljhneenaaGreat
open Go.RowKit Go.Shelf

def Lv (w : World) (X : Nat → Prop) (v : Value) (i : Int) (x y z : Z) : Prop := ∃ A a B b C c, v = .agg #[.int .i64 i, .bool x.neg, .slice A x.mag.length a, .bool y.neg, .slice B y.mag.length b, .bool z.neg, .slice C z.mag.length c] ∧ Nl w X A a x.mag ∧ Nl w X B b y.mag ∧ Nl w X C c z.mag

theorem mk_zl {ms : List Mk} {w : World} {X : Nat → Prop} {A : Option Addr} {c N : Nat} (hm : Ms w X A c ms) (hN : 1 ≤ N) (hsz : ∀ m ∈ ms, m.sz N) : ∀ m ∈ ms, zl (m.k.v + 1) ≤ N + 1 := fun m hmm => by
 obtain ⟨i, hi, rfl⟩ := List.getElem_of_mem hmm; obtain ⟨_, _, _, _, _, _, _, _, _, _, _, _, _, _, _, hn, _⟩ := Ms.at_ hm hi; exact zl_add (Nat.le_trans (zl_of hn.lt) (hsz _ hmm).2.2.2.1) (Nat.le_trans (show zl 1 ≤ 1 by decide) hN)
theorem take12 (ms : List Mk) : ms.take 12 = ms.take (min ms.length 12) := by
 rcases Nat.le_total ms.length 12 with h | h
 ·rw [Nat.min_eq_left h, List.take_of_length_le h, List.take_of_length_le (Nat.le_refl _)]
 ·rw [Nat.min_eq_right h]
theorem build_ok {ms : List Mk} {w : World} {X : Nat → Prop} {A : Option Addr} {c N : Nat} (hm : Ms w X A c ms) (hN : 1 ≤ N) (hsz : ∀ m ∈ ms, m.sz N) : 0 < (buildF ms).length ∧ (buildF ms).length ≤ 13 ∧ ∀ s ∈ buildF ms, s.ok (N + 1) ∧ s.cuts.length ≤ 4096 := by
 have hb := buildK_ok (ms := ms) (N := N + 1) (mk_zl hm hN hsz) (k := min ms.length 12) (by omega) (by omega); have hp : 2 ^ (min ms.length 12) ≤ 4096 := Nat.pow_le_pow_right (by omega) (show min ms.length 12 ≤ 12 by omega); unfold buildF; rw [take12]; exact ⟨hb.pos, by have := hb.len; omega, fun s hs => ⟨hb.ok s hs, Nat.le_trans (hb.cut s hs) hp⟩⟩

end Go.Proofs.YtpkfjbljhneenaaGreat
