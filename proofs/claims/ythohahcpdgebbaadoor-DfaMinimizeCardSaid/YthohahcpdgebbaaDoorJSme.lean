/- Proved: what a part of the given program (its deterministic automata, and the functions that they call) computes, and laws on that, under the conditions that each theorem names. -/
import Derived.Test.YthohahcpdgebbaaDoorJEnd
import Derived.Deep.RegionWith
namespace Go.Proofs.YthohahcpdgebbaaDoor.Wk
open Go.RowKit Go.Proofs.YthohahcpdgebbaaDoorW.PrintWords Go.Proofs.YthohahcpdgebbaaDoorW.PrintLast Go.Proofs.YthohahcpdgebbaaDoorW.PrintMore
open Go.Proofs.YthohahcpdgebbaaDoor.Th
set_option linter.unusedVariables false
set_option linter.unusedSimpArgs false
theorem minRes_uniq {d m m' : Dfa} (hd : Ok d) (h : MinRes d m) (h' : MinRes d m') : m = m' := by
  obtain ⟨c1, e1, _⟩ := minRes_canon hd h
  obtain ⟨c2, e2, _⟩ := minRes_canon hd h'
  exact canon_uniq c1 c2 (fun u hu => by
    have x := e1 u hu
    have y := e2 u hu
    rw [c1.st] at x
    rw [c2.st] at y
    exact x.trans y.symm)
theorem blk_below {w w' : World} {b : Nat} {o : Obj} (hb : Below w.heap.size w w') (h : w.heap[b]? = some o) : w'.heap[b]? = some o := by
  have hl : b < w.heap.size := (Array.getElem?_eq_some_iff.1 h).1
  rw [hb.block _ hl]
  exact h
end Go.Proofs.YthohahcpdgebbaaDoor.Wk
