/- Proved: what a part of the given program (its deterministic automata, and the functions that they call) computes, and laws on that, under the conditions that each theorem names. -/
import Derived.Test.YthohahcpdgebbaaDoorJEnd
import Derived.Deep.RegionWith
namespace Go.Proofs.YthohahcpdgebbaaDoor.Wk
open Go.RowKit Go.Proofs.YthohahcpdgebbaaDoorW.PrintWords Go.Proofs.YthohahcpdgebbaaDoorW.PrintLast Go.Proofs.YthohahcpdgebbaaDoorW.PrintMore
open Go.Proofs.YthohahcpdgebbaaDoor.Th
set_option linter.unusedVariables false
set_option linter.unusedSimpArgs false
set_option maxHeartbeats 2000000 in
set_option maxRecDepth 100000 in
theorem eqInts_calls (A1 : Option Addr) (c1 : Nat) (xs : List Int) (A2 : Option Addr) (c2 : Nat) (ys : List Int) (w : World) (h1 : (Kd.int .i64).C w A1 xs.length xs) (h2 : (Kd.int .i64).C w A2 ys.length ys) :
    Calls Tryd.prog 51 #[.slice A1 xs.length c1, .slice A2 ys.length c2] w fun e w' => e = .returned (.bool (decide (xs = ys))) ∧ Below w.heap.size w w' := by
  have hm1 := h1.2.1
  have hm2 := h2.2.1
  have H1 := Aside0.mk h1
  have H2 := Aside0.mk h2
  clear h1 h2
  by_cases hl : xs.length = ys.length
  · have hlb : ((xs.length : Int) != (ys.length : Int)) = false := bne_eq_false_iff_eq.2 (by omega)
    have HLL := Aside0.mk hl
    clear hl
    go_enter Tryd.func51, Tryd.ntmps51
    go_wp2
    go_loopw [13] (fun iv wr => ∃ i : Nat, iv = .int .i64 i ∧ i ≤ xs.length ∧ Aside0 (xs.take i = ys.take i) ∧ Aside0 (Below w.heap.size w wr)) (fun iv _ => xs.length - (intOf iv).toNat)
    case atStart => exact ⟨0, rfl, by omega, ⟨by simp⟩, ⟨Below.refl _ _⟩⟩
    case round =>
      obtain ⟨i, rfl, hi, HE, HB⟩ := hrel
      by_cases hlt : i < xs.length
      · have hlt2 : i < ys.length := by rw [← HLL.out]; exact hlt
        obtain ⟨b1, o1, e1, hb1, hc1⟩ := at_num (Kd.C_below H1.out HB.out) i hlt
        cases e1
        obtain ⟨b2, o2, e2, hb2, hc2⟩ := at_num (Kd.C_below H2.out HB.out) i hlt2
        cases e2
        have hnx := take_eq_next (0 : Int) hlt hlt2 HE.out
        obtain ⟨x, hx⟩ : ∃ x, x = xs.getD i 0 := ⟨_, rfl⟩
        obtain ⟨y, hy⟩ : ∃ y, y = ys.getD i 0 := ⟨_, rfl⟩
        rw [← hx] at hc1 hnx
        rw [← hy] at hc2 hnx
        have HX := Aside0.mk (And.intro hx hy)
        have hi1 : (i : Int) < (xs.length : Int) := by omega
        have hi2 : (i : Int) < (ys.length : Int) := by omega
        clear hx hy
        by_cases hxy : x = y
        · have hb : (x != y) = false := bne_eq_false_iff_eq.2 hxy
          have HNX := Aside0.mk (hnx hxy)
          clear hxy hnx
          go_wp2_with fail
          go_quiet (fail)
          go_wp2
          go_roundw
          case rel => exact ⟨i + 1, by go_num, by omega, HNX, ⟨pw_below_drewN HB.out _⟩⟩
          case measure => simp [intOf]; omega
        · have hb : (x != y) = true := bne_iff_ne.2 hxy
          have HF := Aside0.mk (show decide (xs = ys) = false from decide_eq_false (fun e => hxy (by rw [HX.out.1, HX.out.2, e])))
          clear hxy hnx
          go_wp2_with fail
          go_quiet (fail)
          go_wp2
          go_ret
          exact ⟨by rw [HF.out]; rfl, pw_below_drewN HB.out _⟩
      · obtain rfl : i = xs.length := by omega
        have HF := Aside0.mk (show decide (xs = ys) = true from decide_eq_true (eq_of_take HLL.out HE.out))
        go_wp2
        go_ret
        exact ⟨by rw [HF.out]; rfl, HB.out⟩
  · have hlb : ((xs.length : Int) != (ys.length : Int)) = true := bne_iff_ne.2 (by omega)
    have HF := Aside0.mk (show decide (xs = ys) = false from decide_eq_false (fun e => hl (by rw [e])))
    clear hl
    go_enter Tryd.func51, Tryd.ntmps51
    go_wp2
    go_ret
    exact ⟨by rw [HF.out]; rfl, Below.refl _ _⟩
set_option maxHeartbeats 2000000 in
set_option maxRecDepth 100000 in
theorem eqArcs_calls (A1 : Option Addr) (c1 : Nat) (xs : List Arc) (A2 : Option Addr) (c2 : Nat) (ys : List Arc) (w : World) (h1 : kArc.C w A1 xs.length xs) (h2 : kArc.C w A2 ys.length ys) :
    Calls Tryd.prog 54 #[.slice A1 xs.length c1, .slice A2 ys.length c2] w fun e w' => e = .returned (.bool (decide (xs = ys))) ∧ Below w.heap.size w w' := by
  have hm1 := h1.2.1
  have hm2 := h2.2.1
  have H1 := Aside0.mk h1
  have H2 := Aside0.mk h2
  clear h1 h2
  by_cases hl : xs.length = ys.length
  · have hlb : ((xs.length : Int) != (ys.length : Int)) = false := bne_eq_false_iff_eq.2 (by omega)
    have HLL := Aside0.mk hl
    clear hl
    go_enter Tryd.func54, Tryd.ntmps54
    go_wp2
    go_loopw [13] (fun iv wr => ∃ i : Nat, iv = .int .i64 i ∧ i ≤ xs.length ∧ Aside0 (xs.take i = ys.take i) ∧ Aside0 (Below w.heap.size w wr)) (fun iv _ => xs.length - (intOf iv).toNat)
    case atStart => exact ⟨0, rfl, by omega, ⟨by simp⟩, ⟨Below.refl _ _⟩⟩
    case round =>
      obtain ⟨j, rfl, hi, HE, HB⟩ := hrel
      by_cases hlt : j < xs.length
      · have hlt2 : j < ys.length := by rw [← HLL.out]; exact hlt
        obtain ⟨q3, o3, e3, _, u0, u1, u2⟩ := at_arc (Kd.C_below H1.out HB.out) j hlt
        cases e3
        obtain ⟨q4, o4, e4, _, v0, v1, v2⟩ := at_arc (Kd.C_below H2.out HB.out) j hlt2
        cases e4
        have hnx2 := take_eq_next (default : Arc) hlt hlt2 HE.out
        obtain ⟨x, hx⟩ : ∃ x, x = xs.getD j default := ⟨_, rfl⟩
        obtain ⟨y, hy⟩ : ∃ y, y = ys.getD j default := ⟨_, rfl⟩
        rw [← hx] at u0 u1 u2 hnx2
        rw [← hy] at v0 v1 v2 hnx2
        have HXY := Aside0.mk (And.intro hx hy)
        have HNX2 := Aside0.mk hnx2
        have hj1 : (j : Int) < (xs.length : Int) := by omega
        have hj2 : (j : Int) < (ys.length : Int) := by omega
        clear hx hy hnx2
        have hne := fun W : World => neq_arc x y W
        by_cases hxy : x = y
        · have hb : (x != y) = false := bne_eq_false_iff_eq.2 hxy
          have HN3 := Aside0.mk (HNX2.out hxy)
          clear hxy
          go_wp2_with fail
          go_quiet (fail)
          go_wp2
          go_roundw
          case rel => exact ⟨j + 1, by go_num, by omega, HN3, ⟨pw_below_drewN HB.out _⟩⟩
          case measure => simp [intOf]; omega
        · have hb : (x != y) = true := bne_iff_ne.2 hxy
          have HF := Aside0.mk (show decide (xs = ys) = false from decide_eq_false (fun e => hxy (by rw [HXY.out.1, HXY.out.2, e])))
          clear hxy
          go_wp2_with fail
          go_quiet (fail)
          go_wp2
          go_ret
          exact ⟨by rw [HF.out]; rfl, pw_below_drewN HB.out _⟩
      · obtain rfl : j = xs.length := by omega
        have HF := Aside0.mk (show decide (xs = ys) = true from decide_eq_true (eq_of_take HLL.out HE.out))
        go_wp2
        go_ret
        exact ⟨by rw [HF.out]; rfl, HB.out⟩
  · have hlb : ((xs.length : Int) != (ys.length : Int)) = true := bne_iff_ne.2 (by omega)
    have HF := Aside0.mk (show decide (xs = ys) = false from decide_eq_false (fun e => hl (by rw [e])))
    clear hl
    go_enter Tryd.func54, Tryd.ntmps54
    go_wp2
    go_ret
    exact ⟨by rw [HF.out]; rfl, Below.refl _ _⟩
set_option maxHeartbeats 2000000 in
theorem eqRow_calls (A1 : Option Addr) (c1 : Nat) (xs : List Arc) (A2 : Option Addr) (c2 : Nat) (ys : List Arc) (w : World) (h1 : kArc.C w A1 xs.length xs) (h2 : kArc.C w A2 ys.length ys) :
    Calls Tryd.prog 53 #[.slice A1 xs.length c1, .slice A2 ys.length c2] w fun e w' => e = .returned (.bool (decide (xs = ys))) ∧ Below w.heap.size w w' := by
  go_enter Tryd.func53, Tryd.ntmps53
  go_wp2_with fail
  refine (eqArcs_calls A1 c1 xs A2 c2 ys _ h1 h2).mono ?_
  rintro e w1 ⟨rfl, hb⟩
  go_wp2
  go_ret
  exact ⟨rfl, hb⟩
set_option maxHeartbeats 4000000 in
set_option maxRecDepth 100000 in
theorem eqFunc_calls (A1 : Option Addr) (c1 : Nat) (xs : List (List Arc)) (A2 : Option Addr) (c2 : Nat) (ys : List (List Arc)) (w : World) (h1 : kArcs.C w A1 xs.length xs) (h2 : kArcs.C w A2 ys.length ys) :
    Calls Tryd.prog 52 #[.slice A1 xs.length c1, .slice A2 ys.length c2, .func (.func 53) #[] #[]] w fun e w' => e = .returned (.bool (decide (xs = ys))) ∧ Below w.heap.size w w' := by
  have hm1 := h1.2.1
  have hm2 := h2.2.1
  have H1 := Aside0.mk h1
  have H2 := Aside0.mk h2
  clear h1 h2
  by_cases hl : xs.length = ys.length
  · have hlb : ((xs.length : Int) != (ys.length : Int)) = false := bne_eq_false_iff_eq.2 (by omega)
    have HLL := Aside0.mk hl
    clear hl
    go_enter Tryd.func52, Tryd.ntmps52
    go_wp2
    go_loopw [17] (fun iv wr => ∃ i : Nat, iv = .int .i64 i ∧ i ≤ xs.length ∧ Aside0 (xs.take i = ys.take i) ∧ Aside0 (Below w.heap.size w wr)) (fun iv _ => xs.length - (intOf iv).toNat)
    case atStart => exact ⟨0, rfl, by omega, ⟨by simp⟩, ⟨Below.refl _ _⟩⟩
    case round =>
      obtain ⟨i, rfl, hi, HE, HB⟩ := hrel
      by_cases hlt : i < xs.length
      · have hlt2 : i < ys.length := by rw [← HLL.out]; exact hlt
        obtain ⟨q1, o1, A5, c5, e1, hq1, hc1, _, hr1⟩ := at_arcs (Kd.C_below H1.out HB.out) i hlt
        cases e1
        obtain ⟨q2, o2, A6, c6, e2, hq2, hc2, _, hr2⟩ := at_arcs (Kd.C_below H2.out HB.out) i hlt2
        cases e2
        have hnx := take_eq_next ([] : List Arc) hlt hlt2 HE.out
        obtain ⟨l, hl⟩ : ∃ l, l = xs.getD i [] := ⟨_, rfl⟩
        obtain ⟨m, hm⟩ : ∃ m, m = ys.getD i [] := ⟨_, rfl⟩
        rw [← hl] at hc1 hr1 hnx
        rw [← hm] at hc2 hr2 hnx
        have HLM := Aside0.mk (And.intro hl hm)
        have HR1 := Aside0.mk hr1
        have HR2 := Aside0.mk hr2
        have HNX := Aside0.mk hnx
        have hll := hr1.2.1
        have hml := hr2.2.1
        have hi1 : (i : Int) < (xs.length : Int) := by omega
        have hi2 : (i : Int) < (ys.length : Int) := by omega
        clear hl hm hr1 hr2 hnx
        go_wp2_with fail
        refine (eqRow_calls A5 c5 l A6 c6 m _ HR1.out HR2.out).mono ?_
        rintro e w1 ⟨rfl, hb⟩
        have HB2 := Aside0.mk (HB.out.trans (hb.mono HB.out.size))
        by_cases hxy : l = m
        · rw [decide_eq_true hxy]
          have HN := Aside0.mk (HNX.out hxy)
          clear hxy hb
          go_wp2
          go_roundw
          case rel => exact ⟨i + 1, by go_num, by omega, HN, HB2⟩
          case measure => simp [intOf]; omega
        · rw [decide_eq_false hxy]
          have HF := Aside0.mk (show decide (xs = ys) = false from decide_eq_false (fun e => hxy (by rw [HLM.out.1, HLM.out.2, e])))
          clear hxy hb
          go_wp2
          go_ret
          exact ⟨by rw [HF.out]; rfl, HB2.out⟩
      · obtain rfl : i = xs.length := by omega
        have HF := Aside0.mk (show decide (xs = ys) = true from decide_eq_true (eq_of_take HLL.out HE.out))
        go_wp2
        go_ret
        exact ⟨by rw [HF.out]; rfl, HB.out⟩
  · have hlb : ((xs.length : Int) != (ys.length : Int)) = true := bne_iff_ne.2 (by omega)
    have HF := Aside0.mk (show decide (xs = ys) = false from decide_eq_false (fun e => hl (by rw [e])))
    clear hl
    go_enter Tryd.func52, Tryd.ntmps52
    go_wp2
    go_ret
    exact ⟨by rw [HF.out]; rfl, Below.refl _ _⟩
end Go.Proofs.YthohahcpdgebbaaDoor.Wk
