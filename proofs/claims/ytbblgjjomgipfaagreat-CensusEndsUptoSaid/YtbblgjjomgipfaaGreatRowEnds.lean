/- The law CensusEnds holds of every input of bulk at most 1048576: it returns true, and its arguments read as before. Condition: the bulk. -/
import Derived.Test.YtbblgjjomgipfaaGreatOpen
import Derived.Test.YtbblgjjomgipfaaGreatOpenM
import Derived.Test.YtbblgjjomgipfaaGreatLawEnds
import Derived.ProofKit
import Derived.OpenShut
import Derived.JoinedCond
namespace Go.Proofs.YtbblgjjomgipfaaGreat
open Go.ChangeShapes Go.WideShapes Go.ChangeAt Go.RowKit
set_option linter.unusedVariables false

theorem ends_own : ownKnob Tryz.prog.godebug = none := by kernel_rfl

set_option maxRecDepth 100000 in
theorem ends_contract (H : Type) (enc : TypeId × Value → H) (W : World) (base : Nat) (args : Array Value) (ds gs : List (DataW H)) (before : List MemPlace)
    (hval : ∀ (j : Nat) t v, Tryz.f6.params[j]? = some t → args[j]? = some v → Value.okWide Tryz.prog W .any base t v)
    (hW : DataW.Whole enc Tryz.prog Tryz.f6.params.toList Rows.censusEndsSpec.vars false W args.toList ds gs before) (hk : Rows.uptoSmall H (ds ++ gs) = true) :
    Calls Tryz.prog 6 args W fun e W' => ∃ v, e = .returned v ∧ Rows.censusEndsSpec.post enc Tryz.prog Tryz.f6 false true false false W args v W' := by
  have hW' := hW
  obtain ⟨p, q, hA0, hV, rfl, hfz, hnd⟩ := hW
  have hA : DataW.TrodAll enc Tryz.prog W 0 (fun _ => true) true Tryz.f6.params.toList args.toList ds p := hA0
  rw [Tryz.params6] at hA hval
  obtain ⟨v0, v1, v2, d0, d1, d2, p0, p1, p2, rfl, rfl, rfl, h0, h1, h2⟩ := trodAll_three hA
  obtain ⟨rfl, rfl⟩ := trodVars_none hV
  simp only [List.append_nil] at hW' hk
  have hb : Rows.uptoBulkAll [d0, d1, d2] ≤ 1048576 := of_decide_eq_true hk
  simp only [Rows.uptoBulkAll] at hb
  have hlt : ∀ x ∈ p0 ++ p1 ++ p2, x.block < W.heap.size := fun x hx => hW'.lt x hx
  obtain ⟨A0, c0, x0, rfl, h0t, h0s⟩ := open_ms (hval 0 22 v0 rfl rfl) h0 (fun b o hm => hfz b o (by simp [hm]))
  have h1d := h1
  have hb1 : 1 ≤ Rows.uptoBulk d1 := bulk_pos d1
  obtain ⟨a1, e1, -, -, w1⟩ := open_int Tryz.underlying3 (hval 1 3 v1 rfl rfl) h1
  subst e1
  have h1i : i64 a1 := by
    simp [Lit.wf, IntKind.min, IntKind.max, IntKind.signed, IntKind.bits] at w1
    exact ⟨by omega, by omega⟩
  obtain ⟨x2, h2t, h2s⟩ := open_z (hval 2 25 v2 rfl rfl) h2 (fun b o hm => hfz b o (by simp [hm]))
  refine (lawends_c (N := 1048576) h0t h2t (by omega) (by omega) (fun m hm => (h0s m hm).mono (by omega)) h1i (by omega)).mono fun e W' ⟨he, hx⟩ => ⟨_, he, post_ext hW' rfl rfl hx rfl rfl rfl ?_⟩
  rw [Tryz.params6]
  have := trodAll_mk3 (Below.trod laidOut (by kernel_rfl) (of_decide_eq_true (by kernel_rfl)) h0 hx fun x hx => hlt x (by simp [hx])) (Below.trod laidOut (by kernel_rfl) (of_decide_eq_true (by kernel_rfl)) h1d hx fun x hx => hlt x (by simp [hx])) (Below.trod laidOut (by kernel_rfl) (of_decide_eq_true (by kernel_rfl)) h2 hx fun x hx => hlt x (by simp [hx]))
  simpa only [List.append_assoc] using this

set_option maxRecDepth 100000 in
theorem ends_lifted (os : Os) (started : os.Started) (H : Type) (enc : TypeId × Value → H) (F : Stop.Interp) :
    ReturnsInHanded {} Tryz.checked os 6 .any ((Rows.OpenSpec.upto Rows.censusEndsSpec).pre6 enc Tryz.prog Tryz.f6 Rows.censusEndsUptoRow.domain false) (((Rows.OpenSpec.upto Rows.censusEndsSpec).at F).post enc Tryz.prog Tryz.f6 false true false false) := by
  refine returnsInHanded_of_cond (C := Tryz.checked) (s := Rows.OpenSpec.upto Rows.censusEndsSpec) (k := Rows.uptoSmall) rfl ends_own started (by kernel_rfl) Tryz.func6
    (OpenSpec.witness (enc := enc) (C := Tryz.checked) (s := Rows.OpenSpec.upto Rows.censusEndsSpec) (k := Rows.uptoSmall) rfl false ⟨#[], #[.slice none 0 0, .int .i64 0, .agg #[.bool false, .slice none 0 0]], []⟩ 8 (by kernel_rfl) (by kernel_rfl) (by kernel_rfl)
      (x := ([.nil, .lit (.int .i64 0), .agg [.lit (.bool false), .nil]], [], [])) (by kernel_rfl) rfl (by kernel_rfl)) ?_
  intro W base args ds gs before hval hW _ hk _
  exact ends_contract H enc W base args ds gs before hval hW hk

theorem ends_holds : Rows.CensusEndsUptoSaid :=
  OpenClaim.holds_of_cond 6 Tryz.f6 rfl rfl rfl rfl rfl rfl rfl ⟨rfl, rfl, rfl, rfl, rfl⟩ rfl rfl rfl rfl rfl (by kernel_rfl) Tryz.func6 (by kernel_rfl)
    (of_decide_eq_true (by kernel_rfl)) (by unfold Func.isWrapper; first | (rw [if_pos (by decide +kernel)]; kernel_rfl) | (rw [if_neg (by decide +kernel)]; exact ⟨rfl, rfl⟩))
    (fun os started H enc _ F => ends_lifted os started H enc F)
#print axioms ends_holds

end Go.Proofs.YtbblgjjomgipfaaGreat
