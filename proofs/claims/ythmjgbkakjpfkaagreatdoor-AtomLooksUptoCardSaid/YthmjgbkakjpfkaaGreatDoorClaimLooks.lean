/- The law AtomLooks holds of every input of bulk at most 1048576 in a world that lays the listed tables: it returns true, and its arguments read as before; and its tied card. Condition: the bulk. -/
import Derived.Test.YthmjgbkakjpfkaaGreatDoorGLooksBe
import Derived.Test.YthmjgbkakjpfkaaGreatDoorGLooksBw
import Derived.Test.YthmjgbkakjpfkaaGreatDoorGLooksBm
import Derived.Test.YthmjgbkakjpfkaaGreatDoorTie
import Derived.ProofKit
import Derived.OpenShut
import Derived.JoinedCond
import Derived.Deep.DeepHandedRow
import Derived.SevenTiedAt
namespace Go.Proofs.YthmjgbkakjpfkaaGreatDoor
open Go.ChangeShapes Go.WideShapes Go.ChangeAt Go.RowKit
set_option linter.unusedVariables false

theorem looks_own : ownKnob Tryz.prog.godebug = none := by kernel_rfl

set_option maxRecDepth 100000 in
theorem looks_contract (H : Type) (enc : TypeId × Value → H) (W : World) (base : Nat) (args : Array Value) (ds gs : List (DataW H)) (before : List MemPlace)
    (hval : ∀ (j : Nat) t v, Tryz.f5.params[j]? = some t → args[j]? = some v → Value.okWide Tryz.prog W .any base t v)
    (hW : DataW.Whole enc Tryz.prog Tryz.f5.params.toList Rows.atomLooksSpec.vars false W args.toList ds gs before) (hL : laidMetH Tryz.prog laidListed W) (hk : Rows.uptoSmall H (ds ++ gs) = true) :
    Calls Tryz.prog 5 args W fun e W' => ∃ v, e = .returned v ∧ Rows.atomLooksSpec.post enc Tryz.prog Tryz.f5 false true false false W args v W' := by
  have hW' := hW
  obtain ⟨p, q, hA0, hV, rfl, hfz, hnd⟩ := hW
  have hA : DataW.TrodAll enc Tryz.prog W 0 (fun _ => true) true Tryz.f5.params.toList args.toList ds p := hA0
  rw [Tryz.params5] at hA hval
  obtain ⟨v0, v1, v2, d0, d1, d2, p0, p1, p2, rfl, rfl, rfl, h0, h1, h2⟩ := trodAll_three hA
  obtain ⟨rfl, rfl⟩ := trodVars_none hV
  simp only [List.append_nil] at hW' hk
  have hb : Rows.uptoBulkAll [d0, d1, d2] ≤ 1048576 := of_decide_eq_true hk
  simp only [Rows.uptoBulkAll] at hb
  have hlt : ∀ x ∈ p0 ++ p1 ++ p2, x.block < W.heap.size := fun x hx => hW'.lt x hx
  have htab : Tab W := tab_of_laid hL
  obtain ⟨x0, h0t, h0s⟩ := open_a (hval 0 29 v0 rfl rfl) h0 (fun b o hm => hfz b o (by simp [hm]))
  obtain ⟨x1, h1t, h1s⟩ := open_a (hval 1 29 v1 rfl rfl) h1 (fun b o hm => hfz b o (by simp [hm]))
  obtain ⟨A2, c2, x2, rfl, h2t, h2n, h2m⟩ := open_vs (hval 2 47 v2 rfl rfl) h2 (fun b o hm => hfz b o (by simp [hm]))
  refine (law_of (lawlooks_v _ _ _ 1048576 (h0s.mono (by omega)) (h1s.mono (by omega)) (fun x hx => Nat.le_trans (h2m x hx) (by omega)) (by omega) (by omega)) (fun _ => htab) ((.cons ⟨_, relD_a.2 h0t⟩ (.cons ⟨_, relD_a.2 h1t⟩ (.cons ⟨_, relD_vals.2 ⟨_, _, rfl, h2t⟩⟩ .nil))))).mono fun e W' ⟨he, hx⟩ => ⟨_, he, post_ext hW' rfl rfl hx rfl rfl rfl ?_⟩
  rw [Tryz.params5]
  have := trodAll_mk3 (Below.trod laidOut (by kernel_rfl) (of_decide_eq_true (by kernel_rfl)) h0 hx fun x hx => hlt x (by simp [hx])) (Below.trod laidOut (by kernel_rfl) (of_decide_eq_true (by kernel_rfl)) h1 hx fun x hx => hlt x (by simp [hx])) (Below.trod laidOut (by kernel_rfl) (of_decide_eq_true (by kernel_rfl)) h2 hx fun x hx => hlt x (by simp [hx]))
  simpa only [List.append_assoc] using this

theorem looks_reads (os : Os) {H : Type} (enc : TypeId × Value → H) : ∃ places, DataW.whole enc Tryz.prog ((laidWorld os).forCall (fun _ _ => 0) ⟨#[], #[.agg #[.int .i64 0, .bool false, .slice none 0 0, .slice none 0 0, .bool false, .slice none 0 0], .agg #[.int .i64 0, .bool false, .slice none 0 0, .slice none 0 0, .bool false, .slice none 0 0], .slice none 0 0], []⟩).memory Tryz.f5.params.toList Rows.atomLooksSpec.vars false (#[.agg #[.int .i64 0, .bool false, .slice none 0 0, .slice none 0 0, .bool false, .slice none 0 0], .agg #[.int .i64 0, .bool false, .slice none 0 0, .slice none 0 0, .bool false, .slice none 0 0], .slice none 0 0] : Array Value).toList 8 = some ([.agg [.lit (.int .i64 0), .agg [.lit (.bool false), .nil], .agg [.nil, .agg [.lit (.bool false), .nil]]], .agg [.lit (.int .i64 0), .agg [.lit (.bool false), .nil], .agg [.nil, .agg [.lit (.bool false), .nil]]], .nil], [], places) :=
  ⟨[], by kernel_rfl⟩

set_option maxRecDepth 100000 in
theorem looks_lifted (os : Os) (started : os.Started) (H : Type) (enc : TypeId × Value → H) (F : Stop.Interp) :
    ReturnsInHanded {} Tryz.checked os 5 .any ((Rows.OpenSpec.upto Rows.atomLooksSpec).preRow enc Tryz.prog Tryz.f5 Rows.atomLooksUptoRow.domain false Rows.atomLooksUptoRow.laid) (((Rows.OpenSpec.upto Rows.atomLooksSpec).at F).post enc Tryz.prog Tryz.f5 false true false false) := by
  obtain ⟨places, hx⟩ := looks_reads os enc
  refine returnsInHanded_of_row (C := Tryz.checked) (s := Rows.OpenSpec.upto Rows.atomLooksSpec) looks_own started (by kernel_rfl) Tryz.func5
    (witness_row_at (enc := enc) (C := Tryz.checked) false (laidWorld os) #[.agg #[.int .i64 0, .bool false, .slice none 0 0, .slice none 0 0, .bool false, .slice none 0 0], .agg #[.int .i64 0, .bool false, .slice none 0 0, .slice none 0 0, .bool false, .slice none 0 0], .slice none 0 0] rfl (by kernel_rfl) (by kernel_rfl) (by kernel_rfl)
      (OpenSpec.preRow_of_cond 8 hx (by kernel_rfl) (fun k hk => by cases hk; kernel_rfl) (by kernel_rfl) (laid_met os _))) ?_
  intro W base args ds gs before hval hW _ hcond _ hL _ _
  exact looks_contract H enc W base args ds gs before hval hW hL (hcond _ rfl)

theorem looks_said : Rows.AtomLooksUptoSaid :=
  OpenClaim.holds_of_cond 5 Tryz.f5 rfl rfl rfl rfl rfl rfl rfl ⟨rfl, rfl, rfl, rfl, rfl⟩ rfl rfl rfl rfl rfl (by kernel_rfl) Tryz.func5 (by kernel_rfl)
    (of_decide_eq_true (by kernel_rfl)) (by unfold Func.isWrapper; first | (rw [if_pos (by decide +kernel)]; kernel_rfl) | (rw [if_neg (by decide +kernel)]; exact ⟨rfl, rfl⟩))
    (fun os started H enc _ F => by rw [OpenClaim.pre_eq_preRow]; exact looks_lifted os started H enc F)

theorem looks_bare (f : FuncId) (fn : Func) (hf : Tryz.pinned.checked.prog.funcNamed "riddle/riddlelaw06.AtomLooks" = some f) (hfn : Tryz.pinned.checked.prog.funcs[f]? = some fn) :
    false = Tryz.pinned.checked.prog.looks [] ∧ ∀ (j : Nat) t, fn.params[j]? = some t → Tryz.pinned.checked.prog.wantsStandIn t = false := by
  obtain rfl : f = 5 := Option.some.inj ((show Tryz.prog.funcNamed "riddle/riddlelaw06.AtomLooks" = some 5 by kernel_rfl).symm.trans hf) |>.symm
  obtain rfl : fn = Tryz.f5 := (Option.some.inj (Tryz.func5.symm.trans hfn)).symm
  refine ⟨by kernel_rfl, fun j t ht => ?_⟩
  rw [Tryz.params5] at ht
  have hm : t ∈ [29, 29, 47] := by simpa using Array.mem_of_getElem? ht
  have hall : ([29, 29, 47].all fun u => !Tryz.prog.wantsStandIn u) = true := by kernel_rfl
  exact (show Tryz.prog.wantsStandIn t = false by simpa using List.all_eq_true.1 hall t hm)

theorem looks_card : Rows.AtomLooksUptoCardSaid :=
  Claim7.holds_tied_plain_at .later [] _ _ _ _ looks_said (fun _ h => by cases h) (by kernel_rfl) (fun _ h => by cases h) atomLooksUpto_row_tie rfl ⟨rfl, rfl⟩ (by kernel_rfl) rfl looks_bare (by kernel_rfl)
#print axioms looks_card

end Go.Proofs.YthmjgbkakjpfkaaGreatDoor
