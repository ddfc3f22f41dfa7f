/- Proved: the given statement DfaMinimize, its tied card: the minimized form of an automaton equals the one that the reference computes, under the conditions that the statement names. -/
import Derived.Test.YthohahcpdgebbaaDoorJBs
import Derived.Test.YthohahcpdgebbaaDoorJLaw3
import Derived.Test.YthohahcpdgebbaaDoorTie
import Derived.Test.YthohahcpdgebbaaDoorCards
import Derived.Carry
namespace Go.Proofs.YthohahcpdgebbaaDoor
open Go.ChangeShapes Go.WideShapes Go.ChangeAt Go.WideMaps Go.WideElems Go.RowKit
open Go.ChangeMaps (open_string shut_string)
set_option linter.unusedSimpArgs false
open Go.Proofs.YthohahcpdgebbaaDoor.Th Go.Proofs.YthohahcpdgebbaaDoor.Wk Go.Proofs.YthohahcpdgebbaaDoor.Open
set_option maxRecDepth 100000 in
theorem dfaMinimize_lifted (os : Os) (started : os.Started) (H : Type) (enc : TypeId × Value → H) :
    ReturnsInHanded {} Tryd.checked os 5 .any (fun w args => (Rows.dfaMinimizeSpec.pre enc Tryd.prog Tryd.f5 [] false w args ∧ laidMetH Tryd.prog Rows.dfaMinimizeRow.laid w) ∧ sizedMet enc Tryd.prog Tryd.f5 (OpenSpec.ofChange Rows.dfaMinimizeSpec) false w args)
      (Rows.dfaMinimizeSpec.post enc Tryd.prog Tryd.f5 false true false false) := by
  refine returnsInHanded_of_change_and (C := Tryd.checked) (X := fun w _ => laidMetH Tryd.prog Rows.dfaMinimizeRow.laid w) (fun _ _ _ hh h => h.of_heap hh) own started (by kernel_rfl) Tryd.func5
    (ChangeSpec.witness_shaped (enc := enc) (C := Tryd.checked) (os := os) (X := fun w _ => laidMetH Tryd.prog Rows.dfaMinimizeRow.laid w) false (World.doorLaid Tryd.prog 4000 os) #[.agg #[.int .i64 0, .slice none 0 0, .slice none 0 0]] 8 rfl (World.shaped_of_RefB (by kernel_rfl) (by kernel_rfl)) (by kernel_rfl) (by kernel_rfl) (by kernel_rfl) (door_met os _)) ?_
  intro W base args ds gs before hval0 hW _ _ hL _
  have hval : ∀ (j : Nat) t v, Tryd.f5.params[j]? = some t → args[j]? = some v → Value.okWide Tryd.prog W .any base t v := hval0
  have hW' := hW
  obtain ⟨p, q, hA0, hV, rfl, hfz, hnd⟩ := hW
  have hA : DataW.TrodAll enc Tryd.prog W 0 (fun _ => true) true Tryd.f5.params.toList args.toList ds p := hA0
  rw [Tryd.params5] at hA hval
  obtain ⟨v0, d0, rfl, rfl, h0⟩ := trodAll_one hA
  obtain ⟨rfl, rfl⟩ := trodVars_none hV
  obtain ⟨a0, A0, c0, B0, k0, rfl, hd0, hg0⟩ := open_dfa (hval 0 28 v0 rfl rfl) h0
  clear hA0 hval0
  try simp only [List.append_nil, List.nil_append] at hW'
  have hml : maxLen ≤ 9223372036854775807 := by decide
  refine (law3_calls a0 A0 c0 B0 k0 W hd0 (fun x hx => (hg0.labels x hx).2) (of_laid hL)).mono fun e W' ⟨he, hb⟩ => ?_
  subst he
  have hltp : ∀ x ∈ p, x.block < W.heap.size := fun x hx => hW'.lt x (by simp [hx])
  refine ⟨_, rfl, _, _, _, [], p, [], hW', trodAll_mk1 (shut_bool Tryd.underlying4 _), ?_, rfl, hb.frame _, fun h => by cases h⟩
  have h := trodAll_mk1 (Below.trod laidOut (by kernel_rfl) (of_decide_eq_true (by kernel_rfl)) h0 hb hltp)
  try simp only [List.append_nil, List.nil_append] at h
  exact h
theorem dfaMinimize_holds : Rows.DfaMinimizeSaid :=
  OpenClaim.holds_of_wide 5 Tryd.f5 rfl rfl rfl rfl rfl rfl rfl ⟨rfl, rfl, rfl, rfl, rfl⟩ rfl rfl rfl rfl rfl (by kernel_rfl) Tryd.func5 (by kernel_rfl)
    (of_decide_eq_true (by kernel_rfl)) (by unfold Func.isWrapper; first | (rw [if_pos (by decide +kernel)]; kernel_rfl) | (rw [if_neg (by decide +kernel)]; exact ⟨rfl, rfl⟩))
    (fun os started H enc _ => dfaMinimize_lifted os started H enc)
theorem dfaMinimize_card : Rows.DfaMinimizeCardSaid :=
  Claim7.holds_tied_plain_at .later [] [.data, .data, .data] true (true, "3fae0b8e6852b9d1bcf57f942e3459b92be188d559b48de62a90f044b73f1c1a") false
    dfaMinimize_holds (fun _ h => by cases h) (by kernel_rfl) (fun _ h => by cases h) dfaMinimize_row_tie rfl ⟨rfl, rfl⟩ (by kernel_rfl) rfl
    (fun f fn hf hfn => by
      obtain rfl : f = 5 := Option.some.inj ((show Tryd.prog.funcNamed "narrator/narratorlaw33.DfaMinimize" = some 5 by kernel_rfl).symm.trans hf) |>.symm
      obtain rfl : fn = Tryd.f5 := (Option.some.inj (Tryd.func5.symm.trans hfn)).symm
      exact ⟨by kernel_rfl, fun j t ht => by
        rw [Tryd.params5] at ht
        have hm : t ∈ [28] := by simpa using Array.mem_of_getElem? ht
        have hall : ([28].all fun u => !Tryd.prog.wantsStandIn u) = true := by kernel_rfl
        exact (show Tryd.prog.wantsStandIn t = false by simpa using List.all_eq_true.1 hall t hm)⟩)
    (by kernel_rfl)
end Go.Proofs.YthohahcpdgebbaaDoor
