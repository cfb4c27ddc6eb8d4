/- The law CensusDoes holds of every input of bulk at most 1048576: it returns true, and its arguments read as before. Condition: the bulk. -/
import Derived.Test.YtpkfjbljhneenaaGreatGDoesAd
import Derived.Test.YtpkfjbljhneenaaGreatGDoesAy
import Derived.Test.YtpkfjbljhneenaaGreatGDoesBr
import Derived.ProofKit
import Derived.OpenShut
import Derived.JoinedCond
namespace Go.Proofs.YtpkfjbljhneenaaGreat
open Go.ChangeShapes Go.WideShapes Go.ChangeAt Go.RowKit
set_option linter.unusedVariables false

theorem does_own : ownKnob Tryz.prog.godebug = none := by kernel_rfl

set_option maxRecDepth 100000 in
theorem does_contract (H : Type) (enc : TypeId × Value → H) (W : World) (base : Nat) (args : Array Value) (ds gs : List (DataW H)) (before : List MemPlace)
    (hval : ∀ (j : Nat) t v, Tryz.f3.params[j]? = some t → args[j]? = some v → Value.okWide Tryz.prog W .any base t v)
    (hW : DataW.Whole enc Tryz.prog Tryz.f3.params.toList Rows.censusDoesSpec.vars false W args.toList ds gs before) (hk : Rows.uptoSmall H (ds ++ gs) = true) :
    Calls Tryz.prog 3 args W fun e W' => ∃ v, e = .returned v ∧ Rows.censusDoesSpec.post enc Tryz.prog Tryz.f3 false true false false W args v W' := by
  have hW' := hW
  obtain ⟨p, q, hA0, hV, rfl, hfz, hnd⟩ := hW
  have hA : DataW.TrodAll enc Tryz.prog W 0 (fun _ => true) true Tryz.f3.params.toList args.toList ds p := hA0
  rw [Tryz.params3] at hA hval
  obtain ⟨v0, v1, d0, d1, p0, p1, rfl, rfl, rfl, h0, h1⟩ := trodAll_two hA
  obtain ⟨rfl, rfl⟩ := trodVars_none hV
  simp only [List.append_nil] at hW' hk
  have hb : Rows.uptoBulkAll [d0, d1] ≤ 1048576 := of_decide_eq_true hk
  simp only [Rows.uptoBulkAll] at hb
  have hlt : ∀ x ∈ p0 ++ p1, x.block < W.heap.size := fun x hx => hW'.lt x hx
  obtain ⟨A0, c0, x0, rfl, h0t, h0s⟩ := open_ms (hval 0 22 v0 rfl rfl) h0 (fun b o hm => hfz b o (by simp [hm]))
  obtain ⟨i1, xa1, xb1, xc1, h1t, h1i, h1a, h1b, h1c⟩ := open_look (hval 1 27 v1 rfl rfl) h1 (fun b o hm => hfz b o (by simp [hm]))
  refine (lawdoes_c (N := 1048576) h0t h1t (by omega) (by omega) (fun m hm => (h0s m hm).mono (by omega)) h1i (by omega) (by omega)).mono fun e W' ⟨he, hx⟩ => ⟨_, he, post_ext hW' rfl rfl hx rfl rfl rfl ?_⟩
  rw [Tryz.params3]
  have := trodAll_mk2 (Below.trod laidOut (by kernel_rfl) (of_decide_eq_true (by kernel_rfl)) h0 hx fun x hx => hlt x (by simp [hx])) (Below.trod laidOut (by kernel_rfl) (of_decide_eq_true (by kernel_rfl)) h1 hx fun x hx => hlt x (by simp [hx]))
  simpa only [List.append_assoc] using this

set_option maxRecDepth 100000 in
theorem does_lifted (os : Os) (started : os.Started) (H : Type) (enc : TypeId × Value → H) (F : Stop.Interp) :
    ReturnsInHanded {} Tryz.checked os 3 .any ((Rows.OpenSpec.upto Rows.censusDoesSpec).pre6 enc Tryz.prog Tryz.f3 Rows.censusDoesUptoRow.domain false) (((Rows.OpenSpec.upto Rows.censusDoesSpec).at F).post enc Tryz.prog Tryz.f3 false true false false) := by
  refine returnsInHanded_of_cond (C := Tryz.checked) (s := Rows.OpenSpec.upto Rows.censusDoesSpec) (k := Rows.uptoSmall) rfl does_own started (by kernel_rfl) Tryz.func3
    (OpenSpec.witness (enc := enc) (C := Tryz.checked) (s := Rows.OpenSpec.upto Rows.censusDoesSpec) (k := Rows.uptoSmall) rfl false ⟨#[], #[.slice none 0 0, .agg #[.int .i64 0, .bool false, .slice none 0 0, .bool false, .slice none 0 0, .bool false, .slice none 0 0]], []⟩ 8 (by kernel_rfl) (by kernel_rfl) (by kernel_rfl)
      (x := ([.nil, .agg [.lit (.int .i64 0), .agg [.lit (.bool false), .nil], .agg [.lit (.bool false), .nil], .agg [.lit (.bool false), .nil]]], [], [])) (by kernel_rfl) rfl (by kernel_rfl)) ?_
  intro W base args ds gs before hval hW _ hk _
  exact does_contract H enc W base args ds gs before hval hW hk

theorem does_holds : Rows.CensusDoesUptoSaid :=
  OpenClaim.holds_of_cond 3 Tryz.f3 rfl rfl rfl rfl rfl rfl rfl ⟨rfl, rfl, rfl, rfl, rfl⟩ rfl rfl rfl rfl rfl (by kernel_rfl) Tryz.func3 (by kernel_rfl)
    (of_decide_eq_true (by kernel_rfl)) (by unfold Func.isWrapper; first | (rw [if_pos (by decide +kernel)]; kernel_rfl) | (rw [if_neg (by decide +kernel)]; exact ⟨rfl, rfl⟩))
    (fun os started H enc _ F => does_lifted os started H enc F)
#print axioms does_holds

end Go.Proofs.YtpkfjbljhneenaaGreat
