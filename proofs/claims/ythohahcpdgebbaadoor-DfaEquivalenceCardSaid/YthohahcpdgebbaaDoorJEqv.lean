/- Proved: the given statement DfaEquivalence, its tied card: two automata are the same if and only if their minimized forms are equal, and then every text has the same label in both, under the conditions that the statement names. -/
import Derived.Test.YthohahcpdgebbaaDoorJBs
import Derived.Test.YthohahcpdgebbaaDoorJLaw8
import Derived.Test.YthohahcpdgebbaaDoorTie
import Derived.Test.YthohahcpdgebbaaDoorCards
import Derived.Carry
namespace Go.Proofs.YthohahcpdgebbaaDoor
open Go.ChangeShapes Go.WideShapes Go.ChangeAt Go.WideMaps Go.WideElems Go.RowKit
open Go.ChangeMaps (open_string shut_string)
set_option linter.unusedSimpArgs false
open Go.Proofs.YthohahcpdgebbaaDoor.Th Go.Proofs.YthohahcpdgebbaaDoor.Wk Go.Proofs.YthohahcpdgebbaaDoor.Open
set_option maxRecDepth 100000 in
theorem dfaEquivalence_lifted (os : Os) (started : os.Started) (H : Type) (enc : TypeId × Value → H) :
    ReturnsInHanded {} Tryd.checked os 8 .any (fun w args => (Rows.dfaEquivalenceSpec.pre enc Tryd.prog Tryd.f8 [] false w args ∧ laidMetH Tryd.prog Rows.dfaEquivalenceRow.laid w) ∧ sizedMet enc Tryd.prog Tryd.f8 (OpenSpec.ofChange Rows.dfaEquivalenceSpec) false w args)
      (Rows.dfaEquivalenceSpec.post enc Tryd.prog Tryd.f8 false true false false) := by
  refine returnsInHanded_of_change_and (C := Tryd.checked) (X := fun w _ => laidMetH Tryd.prog Rows.dfaEquivalenceRow.laid w) (fun _ _ _ hh h => h.of_heap hh) own started (by kernel_rfl) Tryd.func8
    (ChangeSpec.witness_shaped (enc := enc) (C := Tryd.checked) (os := os) (X := fun w _ => laidMetH Tryd.prog Rows.dfaEquivalenceRow.laid w) false (World.doorLaid Tryd.prog 4000 os) #[.agg #[.int .i64 0, .slice none 0 0, .slice none 0 0], .agg #[.int .i64 0, .slice none 0 0, .slice none 0 0], .string .empty] 8 rfl (World.shaped_of_RefB (by kernel_rfl) (by kernel_rfl)) (by kernel_rfl) (by kernel_rfl) (by kernel_rfl) (door_met os _)) ?_
  intro W base args ds gs before hval0 hW _ _ hL _
  have hval : ∀ (j : Nat) t v, Tryd.f8.params[j]? = some t → args[j]? = some v → Value.okWide Tryd.prog W .any base t v := hval0
  have hW' := hW
  obtain ⟨p, q, hA0, hV, rfl, hfz, hnd⟩ := hW
  have hA : DataW.TrodAll enc Tryd.prog W 0 (fun _ => true) true Tryd.f8.params.toList args.toList ds p := hA0
  rw [Tryd.params8] at hA hval
  obtain ⟨v0, v1, v2, d0, d1, d2, p0, p1, p2, rfl, rfl, rfl, h0, h1, h2⟩ := trodAll_three hA
  obtain ⟨rfl, rfl⟩ := trodVars_none hV
  obtain ⟨a0, A0, c0, B0, k0, rfl, hd0, hg0⟩ := open_dfa (hval 0 28 v0 rfl rfl) h0
  obtain ⟨a1, A1, c1, B1, k1, rfl, hd1, hg1⟩ := open_dfa (hval 1 28 v1 rfl rfl) h1
  obtain ⟨s2, rfl, rfl, rfl, hmax2⟩ := open_string Tryd.underlying9 (hval 2 9 v2 rfl rfl) h2
  clear hA0 hval0
  simp only [List.append_nil, List.nil_append] at hW'
  have hml : maxLen ≤ 9223372036854775807 := by decide
  have hs2 : s2.size ≤ 9223372036854775807 := by omega
  refine (law8_calls a0 A0 c0 B0 k0 a1 A1 c1 B1 k1 s2 W hd0 hd1 (fun x hx => (hg0.labels x hx).2) (fun x hx => (hg1.labels x hx).2) hs2 (of_laid hL)).mono fun e W' ⟨he, hb⟩ => ?_
  subst he
  have hltp0 : ∀ x ∈ p0, x.block < W.heap.size := fun x hx => hW'.lt x (by simp [hx])
  have hltp1 : ∀ x ∈ p1, x.block < W.heap.size := fun x hx => hW'.lt x (by simp [hx])
  refine ⟨_, rfl, _, _, _, [], p0 ++ p1, [], hW', trodAll_mk1 (shut_bool Tryd.underlying4 _), ?_, rfl, hb.frame _, fun h => by cases h⟩
  have h := trodAll_mk3 (Below.trod laidOut (by kernel_rfl) (of_decide_eq_true (by kernel_rfl)) h0 hb hltp0) (Below.trod laidOut (by kernel_rfl) (of_decide_eq_true (by kernel_rfl)) h1 hb hltp1) (shut_string (enc := enc) (w := W') (base := 0) (sp := fun b => decide (b < W.heap.size)) (held := true) Tryd.underlying9 hmax2)
  simp only [List.append_nil, List.nil_append] at h
  exact h
theorem dfaEquivalence_holds : Rows.DfaEquivalenceSaid :=
  OpenClaim.holds_of_wide 8 Tryd.f8 rfl rfl rfl rfl rfl rfl rfl ⟨rfl, rfl, rfl, rfl, rfl⟩ rfl rfl rfl rfl rfl (by kernel_rfl) Tryd.func8 (by kernel_rfl)
    (of_decide_eq_true (by kernel_rfl)) (by unfold Func.isWrapper; first | (rw [if_pos (by decide +kernel)]; kernel_rfl) | (rw [if_neg (by decide +kernel)]; exact ⟨rfl, rfl⟩))
    (fun os started H enc _ => dfaEquivalence_lifted os started H enc)
theorem dfaEquivalence_card : Rows.DfaEquivalenceCardSaid :=
  Claim7.holds_tied_plain_at .later [] [.data, .data, .data] true (true, "3fae0b8e6852b9d1bcf57f942e3459b92be188d559b48de62a90f044b73f1c1a") false
    dfaEquivalence_holds (fun _ h => by cases h) (by kernel_rfl) (fun _ h => by cases h) dfaEquivalence_row_tie rfl ⟨rfl, rfl⟩ (by kernel_rfl) rfl
    (fun f fn hf hfn => by
      obtain rfl : f = 8 := Option.some.inj ((show Tryd.prog.funcNamed "narrator/narratorlaw33.DfaEquivalence" = some 8 by kernel_rfl).symm.trans hf) |>.symm
      obtain rfl : fn = Tryd.f8 := (Option.some.inj (Tryd.func8.symm.trans hfn)).symm
      exact ⟨by kernel_rfl, fun j t ht => by
        rw [Tryd.params8] at ht
        have hm : t ∈ [28, 28, 9] := by simpa using Array.mem_of_getElem? ht
        have hall : ([28, 28, 9].all fun u => !Tryd.prog.wantsStandIn u) = true := by kernel_rfl
        exact (show Tryd.prog.wantsStandIn t = false by simpa using List.all_eq_true.1 hall t hm)⟩)
    (by kernel_rfl)
end Go.Proofs.YthohahcpdgebbaaDoor
