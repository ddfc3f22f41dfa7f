/- Proved: what a part of the given program (its deterministic automata, and the functions that they call) computes, and laws on that, under the conditions that each theorem names. -/
import Derived.Test.YthohahcpdgebbaaDoorJCheckD
import Derived.Laws.StructEq
import Derived.Test.YthohahcpdgebbaaDoorJThy
import Derived.Test.YthohahcpdgebbaaDoorJBuild
import Derived.Test.YthohahcpdgebbaaDoorJEnc
import Derived.Test.YthohahcpdgebbaaDoorJDec
import Derived.Deep.RegionWith
namespace Go.Proofs.YthohahcpdgebbaaDoor.Wk
open Go.RowKit Go.Proofs.YthohahcpdgebbaaDoorW.PrintWords Go.Proofs.YthohahcpdgebbaaDoorW.PrintLast Go.Proofs.YthohahcpdgebbaaDoorW.PrintMore
open Go.Proofs.YthohahcpdgebbaaDoor.Th
set_option linter.unusedVariables false
set_option linter.unusedSimpArgs false
theorem neq_arc (x y : Arc) (w : World) : (binOp .neq 54 (.agg #[.int .i32 x.lo, .int .i32 x.hi, .int .i64 x.to]) (.agg #[.int .i32 y.lo, .int .i32 y.hi, .int .i64 y.to])).run Tryd.prog w = .ok (.bool (x != y)) w := by
  rw [run_neq_struct]
  simp [go_sem, Tryd.underlying54]
  obtain ⟨a, b, c⟩ := x
  obtain ⟨d, e, f⟩ := y
  simp only
  by_cases h1 : a = d
  · by_cases h2 : b = e
    · by_cases h3 : c = f
      · subst h1 h2 h3
        simp
      · simp [h1, h2, h3]
    · simp [h1, h2]
  · simp [h1]
theorem take_eq_next {α : Type} {a b : List α} {i : Nat} (z : α) (ha : i < a.length) (hb : i < b.length) (h : a.take i = b.take i) (e : a.getD i z = b.getD i z) : a.take (i + 1) = b.take (i + 1) := by
  have ea : a.take (i + 1) = a.take i ++ [a.getD i z] := by rw [List.take_succ_eq_append_getElem ha, List.getD_eq_getElem?_getD, List.getElem?_eq_getElem ha]; rfl
  have eb : b.take (i + 1) = b.take i ++ [b.getD i z] := by rw [List.take_succ_eq_append_getElem hb, List.getD_eq_getElem?_getD, List.getElem?_eq_getElem hb]; rfl
  rw [ea, eb, h, e]
theorem eq_of_take {α : Type} {a b : List α} (hl : a.length = b.length) (h : a.take a.length = b.take a.length) : a = b := by
  rw [List.take_length, hl, List.take_length] at h
  exact h
set_option maxHeartbeats 2000000 in
set_option maxRecDepth 100000 in
theorem equalSets_calls (A1 : Option Addr) (c1 : Nat) (xs : List Int) (A2 : Option Addr) (c2 : Nat) (ys : List Int) (w : World) (h1 : (Kd.int .i64).C w A1 xs.length xs) (h2 : (Kd.int .i64).C w A2 ys.length ys) :
    Calls Tryd.prog 37 #[.slice A1 xs.length c1, .slice A2 ys.length c2] w fun e w' => e = .returned (.bool (decide (xs = ys))) ∧ Below w.heap.size w w' := by
  have hm1 := h1.2.1
  have hm2 := h2.2.1
  have H1 := Aside0.mk h1
  have H2 := Aside0.mk h2
  clear h1 h2
  by_cases hl : xs.length = ys.length
  · have hlb : ((xs.length : Int) != (ys.length : Int)) = false := bne_eq_false_iff_eq.2 (by omega)
    have HLL := Aside0.mk hl
    clear hl
    go_enter Tryd.func37, Tryd.ntmps37
    go_wp2
    go_loopw [5] (fun iv wr => ∃ i : Nat, iv = .int .i64 i ∧ i ≤ xs.length ∧ Aside0 (xs.take i = ys.take i) ∧ Aside0 (Below w.heap.size w wr)) (fun iv _ => xs.length - (intOf iv).toNat)
    case atStart => exact ⟨0, rfl, by omega, ⟨by simp⟩, ⟨Below.refl _ _⟩⟩
    case round =>
      obtain ⟨i, rfl, hi, HE, HB⟩ := hrel
      by_cases hlt : i < xs.length
      · have hlt2 : i < ys.length := by rw [← HLL.out]; exact hlt
        obtain ⟨b1, o1, e1, hb1, hc1⟩ := at_num (Kd.C_below H1.out HB.out) i hlt
        cases e1
        obtain ⟨b2, o2, e2, hb2, hc2⟩ := at_num (Kd.C_below H2.out HB.out) i hlt2
        cases e2
        have hnx := take_eq_next (0 : Int) hlt hlt2 HE.out
        obtain ⟨x, hx⟩ : ∃ x, x = xs.getD i 0 := ⟨_, rfl⟩
        obtain ⟨y, hy⟩ : ∃ y, y = ys.getD i 0 := ⟨_, rfl⟩
        rw [← hx] at hc1 hnx
        rw [← hy] at hc2 hnx
        have HX := Aside0.mk (And.intro hx hy)
        have hi1 : (i : Int) < (xs.length : Int) := by omega
        have hi2 : (i : Int) < (ys.length : Int) := by omega
        clear hx hy
        by_cases hxy : x = y
        · have hb : (x != y) = false := bne_eq_false_iff_eq.2 hxy
          have HNX := Aside0.mk (hnx hxy)
          clear hxy hnx
          go_wp2_with fail
          go_quiet (fail)
          go_wp2
          go_roundw
          case rel => exact ⟨i + 1, by go_num, by omega, HNX, ⟨pw_below_drewN HB.out _⟩⟩
          case measure => simp [intOf]; omega
        · have hb : (x != y) = true := bne_iff_ne.2 hxy
          have HF := Aside0.mk (show decide (xs = ys) = false from decide_eq_false (fun e => hxy (by rw [HX.out.1, HX.out.2, e])))
          clear hxy hnx
          go_wp2_with fail
          go_quiet (fail)
          go_wp2
          go_ret
          exact ⟨by rw [HF.out]; rfl, pw_below_drewN HB.out _⟩
      · obtain rfl : i = xs.length := by omega
        have HF := Aside0.mk (show decide (xs = ys) = true from decide_eq_true (eq_of_take HLL.out HE.out))
        go_wp2
        go_ret
        exact ⟨by rw [HF.out]; rfl, HB.out⟩
  · have hlb : ((xs.length : Int) != (ys.length : Int)) = true := bne_iff_ne.2 (by omega)
    have HF := Aside0.mk (show decide (xs = ys) = false from decide_eq_false (fun e => hl (by rw [e])))
    clear hl
    go_enter Tryd.func37, Tryd.ntmps37
    go_wp2
    go_ret
    exact ⟨by rw [HF.out]; rfl, Below.refl _ _⟩
theorem box2_at2 {w wr : World} {c1 c2 : Array Value} {t1 t2 : TypeId} (hb : Below (w.heap.size + 2) ((w.alloc (.cells c1 t1)).alloc (.cells c2 t2)) wr) :
    (∀ (j : Nat) (v : Value), c1[j]? = some v → wr.cell? ⟨w.heap.size, j, none⟩ = some v) ∧ (∀ (j : Nat) (v : Value), c2[j]? = some v → wr.cell? ⟨w.heap.size + 1, j, none⟩ = some v) ∧ Below w.heap.size w wr ∧ w.heap.size + 2 ≤ wr.heap.size := by
  have hs := hb.size
  simp only [World.alloc, Array.size_push] at hs
  have e1 : ((w.alloc (.cells c1 t1)).alloc (.cells c2 t2)).heap[w.heap.size + 1]? = some (.cells c2 t2 (0, 0)) := by
    have h := heap_alloc_new (w.alloc (.cells c1 t1)) (.cells c2 t2)
    have e : (w.alloc (.cells c1 t1)).heap.size = w.heap.size + 1 := by simp
    rw [← e]
    exact h
  have e2 : wr.heap[w.heap.size + 1]? = some (.cells c2 t2 (0, 0)) := by rw [hb.block _ (by omega)]; exact e1
  have e3 : wr.heap[w.heap.size]? = some (.cells c1 t1 (0, 0)) := by
    rw [hb.block _ (by omega), heap_alloc_old _ _ (by simp)]
    exact heap_alloc_new w _
  refine ⟨fun j v hj => ?_, fun j v hj => ?_, (below_alloc (below_alloc (Below.refl _ _) _) _).trans (hb.mono (by omega)), by omega⟩
  · simp [World.cell?, e3, hj]
  · simp [World.cell?, e2, hj]
set_option maxHeartbeats 4000000 in
set_option maxRecDepth 100000 in
theorem equal_calls (a b : Dfa) (A1 : Option Addr) (c1 : Nat) (A2 : Option Addr) (c2 : Nat) (A3 : Option Addr) (c3 : Nat) (A4 : Option Addr) (c4 : Nat) (w : World) (ha : RdD w a A1 c1 A2 c2) (hb : RdD w b A3 c3 A4 c4) :
    Calls Tryd.prog 15 #[.agg #[.int .i64 a.start, .slice A1 a.arcs.length c1, .slice A2 a.labels.length c2], .agg #[.int .i64 b.start, .slice A3 b.arcs.length c3, .slice A4 b.labels.length c4]] w fun e w' => e = .returned (.bool (decide (a = b))) ∧ Below w.heap.size w w' := by
  obtain ⟨m1, m2⟩ := ha.max
  obtain ⟨m3, m4⟩ := hb.max
  have HA := Aside0.mk ha
  have HB := Aside0.mk hb
  clear ha hb
  by_cases k1 : a.start = b.start
  · have t1 : (a.start != b.start) = false := bne_eq_false_iff_eq.2 k1
    by_cases k2 : a.arcs.length = b.arcs.length
    · have t2 : ((a.arcs.length : Int) != (b.arcs.length : Int)) = false := bne_eq_false_iff_eq.2 (by omega)
      have K1 := Aside0.mk k1
      have K2 := Aside0.mk k2
      clear k1 k2
      go_enter Tryd.func15, Tryd.ntmps15
      go_wp2_with fail
      have hb0 : Below w.heap.size w ((w.alloc (.cells #[.int .i64 a.start, .slice A1 a.arcs.length c1, .slice A2 a.labels.length c2] 28)).alloc (.cells #[.int .i64 b.start, .slice A3 b.arcs.length c3, .slice A4 b.labels.length c4] 28)) := below_alloc (below_alloc (Below.refl _ _) _) _
      refine (equalSets_calls A2 c2 a.labels A4 c4 b.labels _ (HA.out.below hb0).labs (HB.out.below hb0).labs).mono ?_
      rintro e w1 ⟨rfl, hb1⟩
      have hb2 : Below (w.heap.size + 2) ((w.alloc (.cells #[.int .i64 a.start, .slice A1 a.arcs.length c1, .slice A2 a.labels.length c2] 28)).alloc (.cells #[.int .i64 b.start, .slice A3 b.arcs.length c3, .slice A4 b.labels.length c4] 28)) w1 := by
        have e : ((w.alloc (.cells #[.int .i64 a.start, .slice A1 a.arcs.length c1, .slice A2 a.labels.length c2] 28)).alloc (.cells #[.int .i64 b.start, .slice A3 b.arcs.length c3, .slice A4 b.labels.length c4] 28)).heap.size = w.heap.size + 2 := by simp
        rwa [e] at hb1
      have HB1 := Aside0.mk hb2
      clear hb0 hb1 hb2
      by_cases k3 : a.labels = b.labels
      · rw [decide_eq_true k3]
        have K3 := Aside0.mk k3
        clear k3
        go_wp2
        go_loopw [5] (fun iv wr => ∃ i : Nat, iv = .int .i64 i ∧ i ≤ a.arcs.length ∧ Aside0 (a.arcs.take i = b.arcs.take i) ∧ Aside0 (Below (w.heap.size + 2) ((w.alloc (.cells #[.int .i64 a.start, .slice A1 a.arcs.length c1, .slice A2 a.labels.length c2] 28)).alloc (.cells #[.int .i64 b.start, .slice A3 b.arcs.length c3, .slice A4 b.labels.length c4] 28)) wr)) (fun iv _ => a.arcs.length - (intOf iv).toNat)
        case atStart => exact ⟨0, rfl, by omega, ⟨by simp⟩, HB1⟩
        case round =>
          obtain ⟨i, rfl, hi, HE, HB2⟩ := hrel
          obtain ⟨hx, hy, hbel, hsz⟩ := box2_at2 HB2.out
          have x1 := hx 1 _ rfl
          have y1 := hy 1 _ rfl
          simp only [List.getElem_toArray, List.getElem_cons_zero, List.getElem_cons_succ] at x1 y1
          by_cases hlt : i < a.arcs.length
          · have hlt2 : i < b.arcs.length := by rw [← K2.out]; exact hlt
            obtain ⟨q1, o1, A5, c5, e1, hq1, hc1, _, hr1⟩ := at_arcs HA.out.arcs i hlt
            cases e1
            obtain ⟨q2, o2, A6, c6, e2, hq2, hc2, _, hr2⟩ := at_arcs HB.out.arcs i hlt2
            cases e2
            replace hc1 := (hbel.cell hq1).trans hc1
            replace hc2 := (hbel.cell hq2).trans hc2
            have hnx := take_eq_next ([] : List Arc) hlt hlt2 HE.out
            obtain ⟨l, hl⟩ : ∃ l, l = a.arcs.getD i [] := ⟨_, rfl⟩
            obtain ⟨m, hm⟩ : ∃ m, m = b.arcs.getD i [] := ⟨_, rfl⟩
            rw [← hl] at hc1 hr1 hnx
            rw [← hm] at hc2 hr2 hnx
            have HLM := Aside0.mk (And.intro hl hm)
            have HR1 := Aside0.mk hr1
            have HR2 := Aside0.mk hr2
            have HNX := Aside0.mk hnx
            have HBEL := Aside0.mk hbel
            have hll := hr1.2.1
            have hml := hr2.2.1
            have hi1 : (i : Int) < (a.arcs.length : Int) := by omega
            have hi2 : (i : Int) < (b.arcs.length : Int) := by omega
            clear hl hm hr1 hr2 hnx hx hy hbel
            by_cases hlen : l.length = m.length
            · have tl : ((l.length : Int) != (m.length : Int)) = false := bne_eq_false_iff_eq.2 (by omega)
              have HLEN := Aside0.mk hlen
              clear hlen
              go_wp2_with fail
              go_quiet (fail)
              go_wp2
              obtain ⟨wo, rfl⟩ : ∃ wo : World, wo = wr := ⟨_, rfl⟩
              go_loopw [6] (fun jv wr => ∃ j : Nat, jv = .int .i64 j ∧ j ≤ l.length ∧ Aside0 (l.take j = m.take j) ∧ Aside0 (Below wo.heap.size wo wr)) (fun jv _ => l.length - (intOf jv).toNat)
              case atStart => exact ⟨0, rfl, by omega, ⟨by simp⟩, ⟨pw_below_drewN (Below.refl _ _) _⟩⟩
              case round =>
                obtain ⟨j, rfl, hj, HE2, HB3⟩ := hrel
                have x2 := (HB3.out.cell (p := ⟨w.heap.size, 1, none⟩) (by show w.heap.size < _; omega)).trans x1
                have y2 := (HB3.out.cell (p := ⟨w.heap.size + 1, 1, none⟩) (by show w.heap.size + 1 < _; omega)).trans y1
                have d1 := (HB3.out.cell (Nat.lt_of_lt_of_le hq1 HBEL.out.size)).trans hc1
                have d2 := (HB3.out.cell (Nat.lt_of_lt_of_le hq2 HBEL.out.size)).trans hc2
                by_cases hjl : j < l.length
                · have hjm : j < m.length := by rw [← HLEN.out]; exact hjl
                  obtain ⟨q3, o3, e3, _, u0, u1, u2⟩ := at_arc (Kd.C_below (Kd.C_below HR1.out HBEL.out) HB3.out) j hjl
                  cases e3
                  obtain ⟨q4, o4, e4, _, v0, v1, v2⟩ := at_arc (Kd.C_below (Kd.C_below HR2.out HBEL.out) HB3.out) j hjm
                  cases e4
                  have hnx2 := take_eq_next (default : Arc) hjl hjm HE2.out
                  obtain ⟨x, hx⟩ : ∃ x, x = l.getD j default := ⟨_, rfl⟩
                  obtain ⟨y, hy⟩ : ∃ y, y = m.getD j default := ⟨_, rfl⟩
                  rw [← hx] at u0 u1 u2 hnx2
                  rw [← hy] at v0 v1 v2 hnx2
                  have HXY := Aside0.mk (And.intro hx hy)
                  have HNX2 := Aside0.mk hnx2
                  have hj1 : (j : Int) < (l.length : Int) := by omega
                  have hj2 : (j : Int) < (m.length : Int) := by omega
                  clear hx hy hnx2
                  have hne := fun W : World => neq_arc x y W
                  by_cases hxy : x = y
                  · have hb : (x != y) = false := bne_eq_false_iff_eq.2 hxy
                    have HN3 := Aside0.mk (HNX2.out hxy)
                    clear hxy
                    go_wp2_with fail
                    go_quiet (fail)
                    go_wp2
                    go_roundw
                    case rel => exact ⟨j + 1, by go_num, by omega, HN3, ⟨pw_below_drewN HB3.out _⟩⟩
                    case measure => simp [intOf]; omega
                  · have hb : (x != y) = true := bne_iff_ne.2 hxy
                    have HF := Aside0.mk (show decide (a = b) = false from decide_eq_false (fun e => hxy (by rw [HXY.out.1, HXY.out.2, HLM.out.1, HLM.out.2, e])))
                    clear hxy
                    go_wp2_with fail
                    go_quiet (fail)
                    go_wp2
                    go_ret
                    exact ⟨by rw [HF.out]; rfl, pw_below_drewN (HBEL.out.trans (HB3.out.mono HBEL.out.size)) _⟩
                · obtain rfl : j = l.length := by omega
                  have HF := Aside0.mk (HNX.out (eq_of_take HLEN.out HE2.out))
                  go_wp2
                  go_roundw
                  case rel => exact ⟨i + 1, by go_num, by omega, HF, ⟨HB2.out.trans (HB3.out.mono hsz)⟩⟩
                  case measure => simp [intOf]; omega
            · have tl : ((l.length : Int) != (m.length : Int)) = true := bne_iff_ne.2 (by omega)
              have HF := Aside0.mk (show decide (a = b) = false from decide_eq_false (fun e => hlen (by rw [HLM.out.1, HLM.out.2, e])))
              clear hlen
              go_wp2_with fail
              go_quiet (fail)
              go_wp2
              go_ret
              exact ⟨by rw [HF.out]; rfl, pw_below_drewN HBEL.out _⟩
          · obtain rfl : i = a.arcs.length := by omega
            have HF := Aside0.mk (show decide (a = b) = true from decide_eq_true (by
              have h1 := K1.out
              have h2 := eq_of_take K2.out HE.out
              have h3 := K3.out
              cases a
              cases b
              simp only at h1 h2 h3
              subst h1 h2 h3
              rfl))
            have HBEL := Aside0.mk hbel
            clear hx hy hbel
            go_wp2
            go_ret
            exact ⟨by rw [HF.out]; rfl, HBEL.out⟩
      · rw [decide_eq_false k3]
        have HF := Aside0.mk (show decide (a = b) = false from decide_eq_false (fun e => k3 (by rw [e])))
        clear k3
        have hbel := (box2_at2 HB1.out).2.2.1
        go_wp2
        go_ret
        exact ⟨by rw [HF.out]; rfl, hbel⟩
    · have t2 : ((a.arcs.length : Int) != (b.arcs.length : Int)) = true := bne_iff_ne.2 (by omega)
      have HF := Aside0.mk (show decide (a = b) = false from decide_eq_false (fun e => k2 (by rw [e])))
      clear k1 k2
      go_enter Tryd.func15, Tryd.ntmps15
      go_wp2
      go_ret
      exact ⟨by rw [HF.out]; rfl, below_alloc (below_alloc (Below.refl _ _) _) _⟩
  · have t1 : (a.start != b.start) = true := bne_iff_ne.2 k1
    have HF := Aside0.mk (show decide (a = b) = false from decide_eq_false (fun e => k1 (by rw [e])))
    clear k1
    go_enter Tryd.func15, Tryd.ntmps15
    go_wp2
    go_ret
    exact ⟨by rw [HF.out]; rfl, below_alloc (below_alloc (Below.refl _ _) _) _⟩
end Go.Proofs.YthohahcpdgebbaaDoor.Wk
namespace Go.Proofs.YthohahcpdgebbaaDoor.Wk
open Go.RowKit Go.Proofs.YthohahcpdgebbaaDoorW.PrintWords Go.Proofs.YthohahcpdgebbaaDoorW.PrintLast Go.Proofs.YthohahcpdgebbaaDoorW.PrintMore
open Go.Proofs.YthohahcpdgebbaaDoor.Th
set_option linter.unusedVariables false
set_option linter.unusedSimpArgs false
theorem minRes_canon {d m : Dfa} (hd : Ok d) (h : MinRes d m) : Canon m ∧ Eqv m m.start d d.start ∧ m.n ≤ d.n := by
  rcases h with ⟨h1, rfl⟩ | ⟨h1, h2, R, order, h3, h4, h5⟩
  · exact ⟨canon_dead, dead_eqv h1, hd.pos⟩
  · exact canon_of_bInv hd h1 h2 h3 h4 h5
theorem C_block {α : Type} {d : Kd α} {W : World} {b : Nat} {cs : List Value} {t : TypeId} {f : Nat × Nat} {xs : List α} (h : W.heap[b]? = some (.cells cs.toArray t f)) (hmax : xs.length ≤ 9223372036854775807)
    (hK : ∀ (j : Nat) (x : α), xs[j]? = some x → ((cs.drop (j * d.sz)).take d.sz).length = d.sz ∧ d.K W x ((cs.drop (j * d.sz)).take d.sz)) : d.C W (some ⟨b, 0, none⟩) xs.length xs := by
  refine ⟨rfl, hmax, fun _ => ⟨⟨b, 0, none⟩, rfl, fun j p hj => ⟨_, (hK j p hj).1, (hK j p hj).2, fun i v hi => ?_⟩⟩⟩
  have hi2 : i < d.sz := by
    have := (List.getElem?_eq_some_iff.1 hi).1
    simp at this
    omega
  rw [List.getElem?_take_of_lt hi2, List.getElem?_drop] at hi
  have e : (⟨b, 0, none⟩ : Addr).add (j * d.sz + i) = ⟨b, j * d.sz + i, none⟩ := by rw [Addr.add_lit, Nat.zero_add]
  rw [e]
  have e2 : W.cell? ⟨b, j * d.sz + i, none⟩ = cs.toArray[j * d.sz + i]? := by simp [World.cell?, h]
  rw [e2, List.getElem?_toArray]
  exact hi
set_option maxRecDepth 100000 in
theorem ab_read {W : World} {b1 b2 b3 b5 : Nat} (h1 : W.heap[b1]? = some (.cells #[.int .i32 97, .int .i32 98, .int .i64 1] 54 (0, 0))) (h2 : W.heap[b2]? = some (.cells #[.slice (some ⟨b1, 0, none⟩) 1 1, .slice none 0 0] 50 (0, 0)))
    (h3 : W.heap[b3]? = some (.cells #[.slice none 0 0, .slice none 0 0] 26 (0, 0))) (h5 : W.heap[b5]? = some (.cells #[.int .i64 0, .int .i64 1, .slice (some ⟨b2, 0, none⟩) 2 2, .slice (some ⟨b3, 0, none⟩) 2 2] 46 (0, 0))) :
    kNf.C W (some ⟨b5, 0, none⟩) 1 [abN] := by
  have nilA : kArc.C W none 0 [] := ⟨rfl, by decide, fun h => absurd h (by decide)⟩
  have nilI : (Kd.int .i64).C W none 0 [] := ⟨rfl, by decide, fun h => absurd h (by decide)⟩
  have cArc : kArc.C W (some ⟨b1, 0, none⟩) 1 [⟨97, 98, 1⟩] := C_block (xs := [(⟨97, 98, 1⟩ : Arc)]) (cs := [.int .i32 97, .int .i32 98, .int .i64 1]) h1 (by decide) (fun j x hj => by
    match j, hj with
    | 0, hj =>
      injection hj with hj
      subst hj
      exact ⟨rfl, kArc_mk W ⟨97, 98, 1⟩⟩
    | j + 1, hj => simp at hj)
  have cArcs : (Kd.slice 54 kArc).C W (some ⟨b2, 0, none⟩) 2 [[⟨97, 98, 1⟩], []] := C_block (xs := [[(⟨97, 98, 1⟩ : Arc)], []]) (cs := [.slice (some ⟨b1, 0, none⟩) 1 1, .slice none 0 0]) h2 (by decide) (fun j x hj => by
    match j, hj with
    | 0, hj =>
      injection hj with hj
      subst hj
      exact ⟨rfl, _, 1, rfl, Nat.le_refl _, cArc⟩
    | 1, hj =>
      injection hj with hj
      subst hj
      exact ⟨rfl, _, 0, rfl, Nat.le_refl _, nilA⟩
    | j + 2, hj => simp at hj)
  have cInts : kInts.C W (some ⟨b3, 0, none⟩) 2 [[], []] := C_block (d := kInts) (xs := [([] : List Int), []]) (cs := [.slice none 0 0, .slice none 0 0]) h3 (by decide) (fun j x hj => by
    match j, hj with
    | 0, hj =>
      injection hj with hj
      subst hj
      exact ⟨rfl, _, 0, rfl, Nat.le_refl _, nilI⟩
    | 1, hj =>
      injection hj with hj
      subst hj
      exact ⟨rfl, _, 0, rfl, Nat.le_refl _, nilI⟩
    | j + 2, hj => simp at hj)
  exact C_block (d := kNf) (xs := [abN]) (cs := [.int .i64 0, .int .i64 1, .slice (some ⟨b2, 0, none⟩) 2 2, .slice (some ⟨b3, 0, none⟩) 2 2]) h5 (by decide) (fun j x hj => by
    match j, hj with
    | 0, hj =>
      injection hj with hj
      subst hj
      exact ⟨rfl, [.int .i64 0, .int .i64 1], [.slice (some ⟨b2, 0, none⟩) 2 2, .slice (some ⟨b3, 0, none⟩) 2 2], rfl, ⟨[.int .i64 0], [.int .i64 1], rfl, rfl, rfl⟩, [.slice (some ⟨b2, 0, none⟩) 2 2], [.slice (some ⟨b3, 0, none⟩) 2 2], rfl, ⟨_, 2, rfl, Nat.le_refl _, cArcs⟩, ⟨_, 2, rfl, Nat.le_refl _, cInts⟩⟩
    | j + 1, hj => simp at hj)
theorem finL_b : finL ⟨#[98]⟩ = [98] := by decide +kernel
theorem finL_c : finL ⟨#[99]⟩ = [99] := by decide +kernel
theorem alloc5 (w : World) (o1 o2 o3 o4 o5 : Obj) : (((((w.alloc o1).alloc o2).alloc o3).alloc o4).alloc o5).heap[w.heap.size]? = some o1 ∧ (((((w.alloc o1).alloc o2).alloc o3).alloc o4).alloc o5).heap[w.heap.size + 1]? = some o2 ∧
    (((((w.alloc o1).alloc o2).alloc o3).alloc o4).alloc o5).heap[w.heap.size + 1 + 1]? = some o3 ∧ (((((w.alloc o1).alloc o2).alloc o3).alloc o4).alloc o5).heap[w.heap.size + 1 + 1 + 1]? = some o4 ∧ (((((w.alloc o1).alloc o2).alloc o3).alloc o4).alloc o5).heap[w.heap.size + 1 + 1 + 1 + 1]? = some o5 ∧
    Below w.heap.size w (((((w.alloc o1).alloc o2).alloc o3).alloc o4).alloc o5) := by
  have e1 : (w.alloc o1).heap.size = w.heap.size + 1 := by simp
  have e2 : ((w.alloc o1).alloc o2).heap.size = w.heap.size + 1 + 1 := by simp
  have e3 : (((w.alloc o1).alloc o2).alloc o3).heap.size = w.heap.size + 1 + 1 + 1 := by simp
  have e4 : ((((w.alloc o1).alloc o2).alloc o3).alloc o4).heap.size = w.heap.size + 1 + 1 + 1 + 1 := by simp
  have n1 := heap_alloc_new w o1
  have n2 := heap_alloc_new (w.alloc o1) o2
  have n3 := heap_alloc_new ((w.alloc o1).alloc o2) o3
  have n4 := heap_alloc_new (((w.alloc o1).alloc o2).alloc o3) o4
  have n5 := heap_alloc_new ((((w.alloc o1).alloc o2).alloc o3).alloc o4) o5
  rw [e1] at n2
  rw [e2] at n3
  rw [e3] at n4
  rw [e4] at n5
  refine ⟨?_, ?_, ?_, ?_, n5, below_alloc (below_alloc (below_alloc (below_alloc (below_alloc (Below.refl _ _) _) _) _) _) _⟩
  · rw [heap_alloc_old _ _ (by omega), heap_alloc_old _ _ (by omega), heap_alloc_old _ _ (by omega), heap_alloc_old _ _ (by omega)]
    exact n1
  · rw [heap_alloc_old _ _ (by omega), heap_alloc_old _ _ (by omega), heap_alloc_old _ _ (by omega)]
    exact n2
  · rw [heap_alloc_old _ _ (by omega), heap_alloc_old _ _ (by omega)]
    exact n3
  · rw [heap_alloc_old _ _ (by omega)]
    exact n4
set_option maxHeartbeats 8000000 in
set_option maxRecDepth 100000 in
theorem awake_calls (w : World) (htab : Tab w) : Calls Tryd.prog 12 #[] w fun e w' => e = .returned (.bool true) ∧ Below w.heap.size w w' := by
  have HT := Aside0.mk htab
  clear htab
  go_enter Tryd.func12, Tryd.ntmps12
  go_wp2_with fail
  obtain ⟨h1, h2, h3, h4, h5, hb⟩ := alloc5 w (.cells #[.int .i32 97, .int .i32 98, .int .i64 1] 54) (.cells #[.slice (some ⟨w.heap.size, 0, none⟩) 1 1, .slice none 0 0] 50) (.cells #[.slice none 0 0, .slice none 0 0] 26)
    (.cells #[.int .i64 0, .int .i64 1, .slice (some ⟨w.heap.size + 1, 0, none⟩) 2 2, .slice (some ⟨w.heap.size + 1 + 1, 0, none⟩) 2 2] 46) (.cells #[.int .i64 0, .int .i64 1, .slice (some ⟨w.heap.size + 1, 0, none⟩) 2 2, .slice (some ⟨w.heap.size + 1 + 1, 0, none⟩) 2 2] 46)
  generalize hW : (((((w.alloc (.cells #[.int .i32 97, .int .i32 98, .int .i64 1] 54)).alloc (.cells #[.slice (some ⟨w.heap.size, 0, none⟩) 1 1, .slice none 0 0] 50)).alloc (.cells #[.slice none 0 0, .slice none 0 0] 26)).alloc (.cells #[.int .i64 0, .int .i64 1, .slice (some ⟨w.heap.size + 1, 0, none⟩) 2 2, .slice (some ⟨w.heap.size + 1 + 1, 0, none⟩) 2 2] 46)).alloc (.cells #[.int .i64 0, .int .i64 1, .slice (some ⟨w.heap.size + 1, 0, none⟩) 2 2, .slice (some ⟨w.heap.size + 1 + 1, 0, none⟩) 2 2] 46)) = W at h1 h2 h3 h4 h5 hb ⊢
  have HB := Aside0.mk hb
  have HC := Aside0.mk (ab_read h1 h2 h3 h5)
  clear hW h1 h2 h3 h4 h5 hb
  refine (build_calls [abN] abL_ok (by decide) (by simp) _ 1 W HC.out (fun u _ => ab_moves u) (by decide) (HT.out.later HB.out)).mono ?_
  rintro e w1 hres
  rcases hres with ⟨sets, arcs, labs, hpi, hal, hsl, m, B1, k1, B2, k2, rfl, hro, hmin, hb1⟩ | ⟨sets, arcs, labs, hpi, h3000, _⟩
  case inr => exact absurd h3000 (ab_sets hpi)
  obtain ⟨hokD, hrunD⟩ := pInv_end hpi hal hsl
  obtain ⟨hcan, heq, _⟩ := minRes_canon hokD hmin
  have hm : m = abT := canon_uniq hcan abT_canon (fun u hu => by
    have h := heq u hu
    rw [hcan.st] at h
    rw [h, ab_run]
    exact hrunD u hu)
  subst hm
  have hb2 := HB.out.trans (hb1.mono HB.out.size)
  have HB2 := Aside0.mk hb2
  have HRO := Aside0.mk hro
  clear hokD hrunD hcan heq hmin hpi hal hsl hb1 hro hb2
  go_wp2_with fail
  have hbx : Below w1.heap.size w1 (w1.alloc (.cells #[.int .i64 abT.start, .slice B1 abT.arcs.length k1, .slice B2 abT.labels.length k2] 28)) := below_alloc (Below.refl _ _) _
  have hw1 := HB2.out.size
  have harc : ∀ l ∈ abT.arcs, l.length ≤ 4294967296 := by decide
  refine (shortest_calls abT abT_ok 0 (by decide) B1 k1 B2 k2 _ (HRO.out.rd.below hbx) harc).mono ?_
  rintro e w2 ⟨hsh, hb2⟩
  have hb3 : Below (w1.heap.size + 1) (w1.alloc (.cells #[.int .i64 abT.start, .slice B1 abT.arcs.length k1, .slice B2 abT.labels.length k2] 28)) w2 := by
    have e : (w1.alloc (.cells #[.int .i64 abT.start, .slice B1 abT.arcs.length k1, .slice B2 abT.labels.length k2] 28)).heap.size = w1.heap.size + 1 := by simp
    rwa [e] at hb2
  obtain ⟨hbox, hbel, hwz⟩ := box_later hb3
  have x0 := hbox 0 _ rfl
  have x1 := hbox 1 _ rfl
  have x2 := hbox 2 _ rfl
  simp only [List.getElem_toArray, List.getElem_cons_zero, List.getElem_cons_succ] at x0 x1 x2
  rcases hsh with ⟨u, hu, _, rfl⟩ | ⟨hno, _⟩
  case inr => exact absurd hno ab_has
  obtain rfl := ab_least hu
  have HRD := Aside0.mk (HRO.out.rd.below hbel)
  have HB4 := Aside0.mk (HB2.out.trans (hbel.mono hw1))
  have eA : encL [97] = [97] := by decide
  rw [eA]
  clear hbx hb2 hb3 hbox hbel hu
  have t2 : abT.labels.length = 2 := rfl
  rw [t2] at x2
  go_wp2_with fail
  refine (run_calls abT B1 k1 B2 k2 ⟨#[98]⟩ _ HRD.out (by decide) harc).mono ?_
  rintro e w3 ⟨hr, hb3⟩
  rcases hr with ⟨_, rfl⟩ | ⟨hno, _⟩
  case inr => exact absurd abT_ok hno
  rw [finL_b, show run abT abT.start [98] = 0 from by decide]
  have HRD3 := Aside0.mk (HRD.out.below hb3)
  have HB5 := Aside0.mk (HB4.out.trans (hb3.mono HB4.out.size))
  have y0 := (hb3.cell (p := ⟨w1.heap.size, 0, none⟩) hwz).trans x0
  have y1 := (hb3.cell (p := ⟨w1.heap.size, 1, none⟩) hwz).trans x1
  have y2 := (hb3.cell (p := ⟨w1.heap.size, 2, none⟩) hwz).trans x2
  clear hb3 x0 x1 x2
  go_wp2_with fail
  refine (run_calls abT B1 k1 B2 k2 ⟨#[99]⟩ _ HRD3.out (by decide) harc).mono ?_
  rintro e w4 ⟨hr, hb4⟩
  rcases hr with ⟨_, rfl⟩ | ⟨hno, _⟩
  case inr => exact absurd abT_ok hno
  rw [finL_c, show run abT abT.start [99] = -1 from by decide]
  have HB6 := Aside0.mk (HB5.out.trans (hb4.mono HB5.out.size))
  clear hb4
  go_wp2
  go_ret
  exact ⟨rfl, HB6.out⟩
end Go.Proofs.YthohahcpdgebbaaDoor.Wk
namespace Go.Proofs.YthohahcpdgebbaaDoor.Wk
open Go.RowKit Go.Proofs.YthohahcpdgebbaaDoorW.PrintWords Go.Proofs.YthohahcpdgebbaaDoorW.PrintLast Go.Proofs.YthohahcpdgebbaaDoorW.PrintMore
open Go.Proofs.YthohahcpdgebbaaDoor.Th
set_option linter.unusedVariables false
set_option linter.unusedSimpArgs false
theorem below_cell {w w' : World} {a : Addr} {v : Value} (hb : Below w.heap.size w w') (h : w.cell? a = some v) : w'.cell? a = some v := cell_later hb h
end Go.Proofs.YthohahcpdgebbaaDoor.Wk
