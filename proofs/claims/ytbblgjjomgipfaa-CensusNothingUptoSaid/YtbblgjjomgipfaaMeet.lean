/- periods: Meet. No conditions. -/
import Derived.Test.YtbblgjjomgipfaaJoin
namespace Go.Proofs.Ytbblgjjomgipfaa
open Go.RowKit Go.Shelf

set_option maxHeartbeats 800000 in
theorem meet_c {g h N : Nat} {s o : Ps} {w : World} {X Y : Nat → Prop} (hs : SetV w X g s) (ho : SetV w Y h o) (hsk : s.ok N) (hok : o.ok N) (hq : Nat.lcm s.per o.per ≤ 4096) :
    Calls Try.prog 100 #[.pointer (some ⟨g, 0, none⟩), .pointer (some ⟨h, 0, none⟩)] w fun e w' =>
      ∃ r l, Mrg s o l ∧ e = .returned (.tuple #[.pointer (some ⟨r, 0, none⟩), .int .i64 0]) ∧ SetV w' (fun _ => True) r ⟨Nat.lcm s.per o.per, (jfold and s o (Nat.lcm s.per o.per) l).1, (jfold and s o (Nat.lcm s.per o.per) l).2⟩ ∧ Ext w w' := by
  have eg : ∀ args w, (callFunc 123 args).run Try.prog w = .ok (.enter 123 args) w := enters_of Try.func123 (by kernel_rfl) rfl
  have hc := joined_c (fi := 123) (f := and) hs ho hsk hok eg (fun x y W => meet1_c x y W) hq
  obtain ⟨R, hR⟩ : ∃ R : List Z → Ps, R = fun l => ⟨Nat.lcm s.per o.per, (jfold and s o (Nat.lcm s.per o.per) l).1, (jfold and s o (Nat.lcm s.per o.per) l).2⟩ := ⟨_, rfl⟩
  have hR' : ∀ l, (⟨Nat.lcm s.per o.per, (jfold and s o (Nat.lcm s.per o.per) l).1, (jfold and s o (Nat.lcm s.per o.per) l).2⟩ : Ps) = R l := fun l => by rw [hR]
  simp only [hR'] at hc ⊢
  clear hR hR'
  go_enter Try.func100, Try.ntmps100
  go_wp2_with fail
  refine hc.mono ?_
  rintro e w1 ⟨r, l, hM, rfl, hS, hx1⟩
  go_wp2_with fail
  (refine bodyPost_ret (v := ?_) ?_ rfl ?_; rotate_left; (simp only [results, Try.results100]; go_simp; (first | done | with_reducible rfl)))
  exact ⟨r, l, hM, rfl, hS, hx1⟩

end Go.Proofs.Ytbblgjjomgipfaa
