/- Proved: what a part of the given program (its deterministic automata, and the functions that they call) computes, and laws on that, under the conditions that each theorem names. -/
import Derived.Test.YthohahcpdgebbaaDoorJEqs
import Derived.Test.YthohahcpdgebbaaDoorJEnd
import Derived.Deep.RegionWith
namespace Go.Proofs.YthohahcpdgebbaaDoor.Wk
open Go.RowKit Go.Proofs.YthohahcpdgebbaaDoorW.PrintWords Go.Proofs.YthohahcpdgebbaaDoorW.PrintLast Go.Proofs.YthohahcpdgebbaaDoorW.PrintMore
open Go.Proofs.YthohahcpdgebbaaDoor.Th
set_option linter.unusedVariables false
set_option linter.unusedSimpArgs false
theorem minRes_uniq {d m m' : Dfa} (hd : Ok d) (h : MinRes d m) (h' : MinRes d m') : m = m' := by
  obtain ⟨c1, e1, _⟩ := minRes_canon hd h
  obtain ⟨c2, e2, _⟩ := minRes_canon hd h'
  exact canon_uniq c1 c2 (fun u hu => by
    have x := e1 u hu
    have y := e2 u hu
    rw [c1.st] at x
    rw [c2.st] at y
    exact x.trans y.symm)
theorem minRes_eq {a b ma mb : Dfa} (ha : Ok a) (hb : Ok b) (h : MinRes a ma) (h' : MinRes b mb) : decide (ma.labels = mb.labels) && decide (ma.arcs = mb.arcs) ↔ ma = mb := by
  have c1 := (minRes_canon ha h).1.st
  have c2 := (minRes_canon hb h').1.st
  constructor
  · intro he
    rw [Bool.and_eq_true, decide_eq_true_eq, decide_eq_true_eq] at he
    cases ma
    cases mb
    simp only at c1 c2 he
    obtain ⟨e1, e2⟩ := he
    subst c1 c2 e1 e2
    rfl
  · rintro rfl
    simp
theorem boxes2 {w wr : World} {c1 c2 : Array Value} {t1 t2 : TypeId} (hb : Below (w.heap.size + 2) ((w.alloc (.cells c1 t1)).alloc (.cells c2 t2)) wr) :
    wr.heap[w.heap.size]? = some (.cells c1 t1 (0, 0)) ∧ wr.heap[w.heap.size + 1]? = some (.cells c2 t2 (0, 0)) ∧ Below w.heap.size w wr ∧ w.heap.size + 2 ≤ wr.heap.size := by
  have hs := hb.size
  simp only [World.alloc, Array.size_push] at hs
  have e1 : ((w.alloc (.cells c1 t1)).alloc (.cells c2 t2)).heap[w.heap.size + 1]? = some (.cells c2 t2 (0, 0)) := by
    have h := heap_alloc_new (w.alloc (.cells c1 t1)) (.cells c2 t2)
    have e : (w.alloc (.cells c1 t1)).heap.size = w.heap.size + 1 := by simp
    rw [← e]
    exact h
  refine ⟨?_, ?_, (below_alloc (below_alloc (Below.refl _ _) _) _).trans (hb.mono (by omega)), by omega⟩
  · rw [hb.block _ (by omega), heap_alloc_old _ _ (by simp)]
    exact heap_alloc_new w _
  · rw [hb.block _ (by omega)]
    exact e1
theorem blk_below {w w' : World} {b : Nat} {o : Obj} (hb : Below w.heap.size w w') (h : w.heap[b]? = some o) : w'.heap[b]? = some o := by
  have hl : b < w.heap.size := (Array.getElem?_eq_some_iff.1 h).1
  rw [hb.block _ hl]
  exact h
section
variable (a b : Dfa) (A1 : Option Addr) (c1 : Nat) (A2 : Option Addr) (c2 : Nat) (A3 : Option Addr) (c3 : Nat) (A4 : Option Addr) (c4 : Nat)
set_option maxHeartbeats 8000000 in
set_option maxRecDepth 100000 in
theorem same_calls (w : World) (ha : Ok a) (hb : Ok b) (hda : RdD w a A1 c1 A2 c2) (hdb : RdD w b A3 c3 A4 c4) (hla : ∀ x ∈ a.labels, x ≤ 9223372036854775807) (hlb : ∀ x ∈ b.labels, x ≤ 9223372036854775807) (htab : Tab w) :
    Calls Tryd.prog 25 #[.agg #[.int .i64 a.start, .slice A1 a.arcs.length c1, .slice A2 a.labels.length c2], .agg #[.int .i64 b.start, .slice A3 b.arcs.length c3, .slice A4 b.labels.length c4]] w fun e w' => (∃ ma mb, MinRes a ma ∧ MinRes b mb ∧ e = .returned (.bool (decide (ma = mb)))) ∧ Below w.heap.size w w' := by
  have HA := Aside0.mk ha
  have HB := Aside0.mk hb
  have HDA := Aside0.mk hda
  have HDB := Aside0.mk hdb
  have HLA := Aside0.mk hla
  have HLB := Aside0.mk hlb
  have HT := Aside0.mk htab
  clear ha hb hda hdb hla hlb htab
  have hb0 : Below w.heap.size w ((w.alloc (.cells #[.int .i64 a.start, .slice A1 a.arcs.length c1, .slice A2 a.labels.length c2] 28)).alloc (.cells #[.int .i64 b.start, .slice A3 b.arcs.length c3, .slice A4 b.labels.length c4] 28)) := below_alloc (below_alloc (Below.refl _ _) _) _
  have HB0 := Aside0.mk hb0
  clear hb0
  go_enter Tryd.func25, Tryd.ntmps25
  go_wp2_with fail
  refine (check_ok a A1 c1 A2 c2 _ HA.out (HDA.out.below HB0.out)).mono ?_
  rintro e w1 ⟨rfl, hb1⟩
  have e2 : ((w.alloc (.cells #[.int .i64 a.start, .slice A1 a.arcs.length c1, .slice A2 a.labels.length c2] 28)).alloc (.cells #[.int .i64 b.start, .slice A3 b.arcs.length c3, .slice A4 b.labels.length c4] 28)).heap.size = w.heap.size + 2 := by simp
  rw [e2] at hb1
  clear e2
  obtain ⟨k1, k2, hw1, hs1⟩ := boxes2 hb1
  obtain ⟨x0, x1, x2⟩ := put3_cells k1
  obtain ⟨y0, y1, y2⟩ := put3_cells k2
  have K1 := Aside0.mk k1
  have K2 := Aside0.mk k2
  have HW1 := Aside0.mk hw1
  clear hb1 k1 k2 hw1
  go_wp2_with fail
  refine (check_ok b A3 c3 A4 c4 _ HB.out (HDB.out.below HW1.out)).mono ?_
  rintro e w2 ⟨rfl, hb2⟩
  have k1 := blk_below hb2 K1.out
  have k2 := blk_below hb2 K2.out
  have hs2 := Nat.le_trans hs1 hb2.size
  have hw2 := HW1.out.trans (hb2.mono HW1.out.size)
  clear x0 x1 x2 y0 y1 y2 K1 K2 hb2 hs1
  have hbd : Below w2.heap.size w2 w2.drew := below_drew (Below.refl _ _)
  obtain ⟨x0, x1, x2⟩ := put3_cells k1
  obtain ⟨y0, y1, y2⟩ := put3_cells k2
  have K1 := Aside0.mk k1
  have K2 := Aside0.mk k2
  have HW2 := Aside0.mk hw2
  have HBD := Aside0.mk hbd
  have HDA2 := Aside0.mk ((HDA.out.below hw2).below hbd)
  have HDB2 := Aside0.mk ((HDB.out.below hw2).below hbd)
  have HT2 := Aside0.mk (HT.out.later (hw2.trans (hbd.mono hw2.size)))
  clear k1 k2 hw2 hbd HDA HDB HT HB0 HW1
  go_wp2_with fail
  go_region_with (first
    | (go_at_call_of 23 (Dfa.start a); refine (minimize_calls a HA.out A1 c1 A2 c2 _ ?xd (ok_rows HA.out) HLA.out ?xt).mono ?_; (case xd => exact HDA2.out); (case xt => exact HT2.out); rintro e w3 ⟨ma, B1, l1, B2, l2, rfl, hroa, hmina, hb3⟩; have x0 := below_cell hb3 (show w2.drew.cell? ⟨w.heap.size, 0, none⟩ = _ from x0); have x1 := below_cell hb3 (show w2.drew.cell? ⟨w.heap.size, 1, none⟩ = _ from x1); have x2 := below_cell hb3 (show w2.drew.cell? ⟨w.heap.size, 2, none⟩ = _ from x2); have y0 := below_cell hb3 (show w2.drew.cell? ⟨w.heap.size + 1, 0, none⟩ = _ from y0); have y1 := below_cell hb3 (show w2.drew.cell? ⟨w.heap.size + 1, 1, none⟩ = _ from y1); have y2 := below_cell hb3 (show w2.drew.cell? ⟨w.heap.size + 1, 2, none⟩ = _ from y2))
    | (go_at_call_of 23 (Dfa.start b); refine (minimize_calls b HB.out A3 c3 A4 c4 _ ?xd (ok_rows HB.out) HLB.out ?xt).mono ?_; (case xd => exact HDB2.out.below hb3); (case xt => exact HT2.out.later hb3); rintro e w4 ⟨mb, B3, l3, B4, l4, rfl, hrob, hminb, hb4⟩; have x0 := below_cell hb4 x0; have x1 := below_cell hb4 x1; have x2 := below_cell hb4 x2; have y0 := below_cell hb4 y0; have y1 := below_cell hb4 y1; have y2 := below_cell hb4 y2; have k1 := blk_below hb4 (blk_below hb3 (blk_below HBD.out K1.out)); have k2 := blk_below hb4 (blk_below hb3 (blk_below HBD.out K2.out)); have f0 := blk_frozen k1 0; have f1 := blk_frozen k1 1; have f2 := blk_frozen k1 2; have g0 := blk_frozen k2 0; have g1 := blk_frozen k2 1; have g2 := blk_frozen k2 2))
  all_goals
    have hrob' := RO.rd (RO.put3 (RO.put3 hrob k1 (.int .i64 ma.start) (.slice B1 ma.arcs.length l1) (.slice B2 ma.labels.length l2)) ((put3_other (show w.heap.size + 1 ≠ w.heap.size by omega) _ _ _).trans k2) (.int .i64 mb.start) (.slice B3 mb.arcs.length l3) (.slice B4 mb.labels.length l4))
    have hroa' := RO.rd (RO.put3 (RO.put3 (RO.mk (Kd.R_below hroa.a hb4) (Kd.R_below hroa.l hb4)) k1 (.int .i64 ma.start) (.slice B1 ma.arcs.length l1) (.slice B2 ma.labels.length l2)) ((put3_other (show w.heap.size + 1 ≠ w.heap.size by omega) _ _ _).trans k2) (.int .i64 mb.start) (.slice B3 mb.arcs.length l3) (.slice B4 mb.labels.length l4))
    have q1 := (put3_other (show w.heap.size ≠ w.heap.size + 1 by omega) (.int .i64 mb.start) (.slice B3 mb.arcs.length l3) (.slice B4 mb.labels.length l4)).trans (put3 k1 (.int .i64 ma.start) (.slice B1 ma.arcs.length l1) (.slice B2 ma.labels.length l2))
    have q2 := put3 ((put3_other (show w.heap.size + 1 ≠ w.heap.size by omega) (.int .i64 ma.start) (.slice B1 ma.arcs.length l1) (.slice B2 ma.labels.length l2)).trans k2) (.int .i64 mb.start) (.slice B3 mb.arcs.length l3) (.slice B4 mb.labels.length l4)
    have hw3 := (HW2.out.trans (HBD.out.mono HW2.out.size)).trans (hb3.mono (HW2.out.trans (HBD.out.mono HW2.out.size)).size)
    have hw4 := hw3.trans (hb4.mono hw3.size)
    have hwF := (((((hw4.setCell (p := ⟨w.heap.size, 0, none⟩) (Nat.le_refl _) (.int .i64 ma.start)).setCell (p := ⟨w.heap.size, 1, none⟩) (Nat.le_refl _) (.slice B1 ma.arcs.length l1)).setCell (p := ⟨w.heap.size, 2, none⟩) (Nat.le_refl _) (.slice B2 ma.labels.length l2)).setCell (p := ⟨w.heap.size + 1, 0, none⟩) (Nat.le_succ _) (.int .i64 mb.start)).setCell (p := ⟨w.heap.size + 1, 1, none⟩) (Nat.le_succ _) (.slice B3 mb.arcs.length l3)).setCell (p := ⟨w.heap.size + 1, 2, none⟩) (Nat.le_succ _) (.slice B4 mb.labels.length l4)
    generalize hF : (((((w4.setCell ⟨w.heap.size, 0, none⟩ (.int .i64 ma.start)).setCell ⟨w.heap.size, 1, none⟩ (.slice B1 ma.arcs.length l1)).setCell ⟨w.heap.size, 2, none⟩ (.slice B2 ma.labels.length l2)).setCell ⟨w.heap.size + 1, 0, none⟩ (.int .i64 mb.start)).setCell ⟨w.heap.size + 1, 1, none⟩ (.slice B3 mb.arcs.length l3)).setCell ⟨w.heap.size + 1, 2, none⟩ (.slice B4 mb.labels.length l4) = wF at hrob' hroa' q1 q2 hwF ⊢
    obtain ⟨u0, u1, u2⟩ := put3_cells q1
    obtain ⟨v0, v1, v2⟩ := put3_cells q2
    have HQ1 := Aside0.mk q1
    have HQ2 := Aside0.mk q2
    have HROA := Aside0.mk hroa'
    have HROB := Aside0.mk hrob'
    have HWF := Aside0.mk hwF
    have HMA := Aside0.mk hmina
    have HMB := Aside0.mk hminb
    have HIFF := minRes_eq HA.out HB.out hmina hminb
    have mal := hroa'.max
    have mbl := hrob'.max
    have mal1 := mal.1
    have mal2 := mal.2
    have mbl1 := mbl.1
    have mbl2 := mbl.2
    clear hF hrob' hroa' q1 q2 hwF hw3 hw4 hroa hrob hmina hminb hb3 hb4 k1 k2 f0 f1 f2 g0 g1 g2 mal mbl K1 K2 HW2 HBD HDA2 HDB2 HT2 HLA HLB hs2 x0 x1 x2 y0 y1 y2
    by_cases hl : ma.labels = mb.labels
    · have hle := congrArg List.length hl
      have HL := Aside0.mk hl
      clear hl hle
      go_wp2_with fail
      refine (eqInts_calls B2 l2 ma.labels B4 l4 mb.labels _ HROA.out.labs HROB.out.labs).mono ?_
      rintro e w5 ⟨rfl, hb5⟩
      rw [decide_eq_true HL.out]
      have u0 := below_cell hb5 u0
      have u1 := below_cell hb5 u1
      have v1 := below_cell hb5 v1
      have HROA5 := Aside0.mk (HROA.out.below hb5)
      have HROB5 := Aside0.mk (HROB.out.below hb5)
      have HB5 := Aside0.mk (HWF.out.trans (hb5.mono HWF.out.size))
      clear hb5 u2 v2 v0
      go_wp2_with fail
      refine (eqFunc_calls B1 l1 ma.arcs B3 l3 mb.arcs _ HROA5.out.arcs HROB5.out.arcs).mono ?_
      rintro e w6 ⟨rfl, hb6⟩
      have HB6 := Aside0.mk (HB5.out.trans (hb6.mono HB5.out.size))
      have hdd : decide (ma.arcs = mb.arcs) = decide (ma = mb) := by
        have h := HIFF
        rw [decide_eq_true HL.out, Bool.true_and] at h
        by_cases hm : ma = mb
        · rw [decide_eq_true hm]; exact h.2 hm
        · rw [decide_eq_false hm]
          cases hd : decide (ma.arcs = mb.arcs) with
          | false => rfl
          | true => exact absurd (h.1 hd) hm
      have HDD := Aside0.mk hdd
      clear hb6 hdd HIFF
      go_wp2
      go_ret
      exact ⟨⟨ma, mb, HMA.out, HMB.out, by rw [HDD.out]; rfl⟩, HB6.out⟩
    · have hne : decide (ma = mb) = false := decide_eq_false (fun e => hl (by rw [e]))
      have HNE := Aside0.mk hne
      have HL := Aside0.mk hl
      clear hl hne HIFF
      go_wp2_with fail
      refine (eqInts_calls B2 l2 ma.labels B4 l4 mb.labels _ HROA.out.labs HROB.out.labs).mono ?_
      rintro e w5 ⟨rfl, hb5⟩
      rw [decide_eq_false HL.out]
      have HB5 := Aside0.mk (HWF.out.trans (hb5.mono HWF.out.size))
      clear hb5
      go_wp2
      go_ret
      exact ⟨⟨ma, mb, HMA.out, HMB.out, by rw [HNE.out]; rfl⟩, HB5.out⟩
end
end Go.Proofs.YthohahcpdgebbaaDoor.Wk
