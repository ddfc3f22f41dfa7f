/- Proved: what a part of the given program (its deterministic automata, and the functions that they call) computes, and laws on that, under the conditions that each theorem names. -/
import Derived.Test.YthohahcpdgebbaaDoorJUse
import Derived.Test.YthohahcpdgebbaaDoorJThy
namespace Go.Proofs.YthohahcpdgebbaaDoor.Wk
open Go.RowKit Go.Proofs.YthohahcpdgebbaaDoorW.PrintWords Go.Proofs.YthohahcpdgebbaaDoorW.PrintLast Go.Proofs.YthohahcpdgebbaaDoorW.PrintMore
open Go.Proofs.YthohahcpdgebbaaDoor.Th
set_option linter.unusedVariables false
set_option linter.unusedSimpArgs false
structure RdN (w : World) (a : Nf) (A1 : Option Addr) (c1 : Nat) (A2 : Option Addr) (c2 : Nat) : Prop where
  arcs : (Kd.slice 54 kArc).C w A1 a.arcs.length a.arcs
  empty : kInts.C w A2 a.empty.length a.empty
  le1 : a.arcs.length ≤ c1
  le2 : a.empty.length ≤ c2
theorem RdN.below {w w1 : World} {a : Nf} {A1 : Option Addr} {c1 : Nat} {A2 : Option Addr} {c2 : Nat} (h : RdN w a A1 c1 A2 c2) (hb : Below w.heap.size w w1) : RdN w1 a A1 c1 A2 c2 :=
  ⟨Kd.C_below h.arcs hb, Kd.C_below h.empty hb, h.le1, h.le2⟩
theorem RdN.max {w : World} {a : Nf} {A1 : Option Addr} {c1 : Nat} {A2 : Option Addr} {c2 : Nat} (h : RdN w a A1 c1 A2 c2) : a.arcs.length ≤ 9223372036854775807 ∧ a.empty.length ≤ 9223372036854775807 := ⟨h.arcs.2.1, h.empty.2.1⟩
theorem box2_at {w wr : World} {c1 c2 : Array Value} {t1 t2 : TypeId} (hb : Below (w.heap.size + 2) ((w.alloc (.cells c1 t1)).alloc (.cells c2 t2)) wr) :
    (∀ (j : Nat) (v : Value), c1[j]? = some v → wr.cell? ⟨w.heap.size, j, none⟩ = some v) ∧ (∀ (j : Nat) (v : Value), c2[j]? = some v → wr.cell? ⟨w.heap.size + 1, j, none⟩ = some v) ∧ Below w.heap.size w wr ∧ w.heap.size + 2 ≤ wr.heap.size := by
  have hs := hb.size
  simp only [World.alloc, Array.size_push] at hs
  have e1 : ((w.alloc (.cells c1 t1)).alloc (.cells c2 t2)).heap[w.heap.size + 1]? = some (.cells c2 t2 (0, 0)) := by
    have h := heap_alloc_new (w.alloc (.cells c1 t1)) (.cells c2 t2)
    have e : (w.alloc (.cells c1 t1)).heap.size = w.heap.size + 1 := by simp
    rw [← e]
    exact h
  have e2 : wr.heap[w.heap.size + 1]? = some (.cells c2 t2 (0, 0)) := by rw [hb.block _ (by omega)]; exact e1
  have e3 : wr.heap[w.heap.size]? = some (.cells c1 t1 (0, 0)) := by
    rw [hb.block _ (by omega), heap_alloc_old _ _ (by simp)]
    exact heap_alloc_new w _
  refine ⟨fun j v hj => ?_, fun j v hj => ?_, (below_alloc (below_alloc (Below.refl _ _) _) _).trans (hb.mono (by omega)), by omega⟩
  · simp [World.cell?, e3, hj]
  · simp [World.cell?, e2, hj]
theorem cell_later0 {w w' : World} {a : Addr} {v : Value} (hb : Below w.heap.size w w') (h : w.cell? a = some v) : w'.cell? a = some v := (hb.cell (World.block_lt_of_cell? w a h)).trans h
def insB (n : Nat) (s : Int) : Bool := decide (0 ≤ s) && decide (s < (n : Int))
theorem insB_true {n : Nat} {s : Int} (h0 : 0 ≤ s) (h1 : s < n) : insB n s = true := by unfold insB; rw [decide_eq_true h0, decide_eq_true h1]; rfl
theorem insB_false {n : Nat} {s : Int} (h : ¬ (0 ≤ s ∧ s < n)) : insB n s = false := by
  unfold insB
  rw [Bool.and_eq_false_iff, decide_eq_false_iff_not, decide_eq_false_iff_not]
  omega
theorem inside_calls (s : Int) (n p : Nat) (w : World) (h : w.cell? ⟨p, 0, none⟩ = some (.int .i64 n)) : Calls Tryd.prog 60 #[.int .i64 s, .pointer (some ⟨p, 0, none⟩)] w fun e w' => e = .returned (.bool (insB n s)) ∧ w' = w := by
  by_cases h0 : 0 ≤ s
  · have b0 : decide (0 ≤ s) = true := decide_eq_true h0
    have HF := Aside0.mk (show insB n s = decide (s < (n : Int)) from by unfold insB; rw [b0]; rfl)
    go_enter Tryd.func60, Tryd.ntmps60
    go_wp2
    go_ret
    exact ⟨by rw [HF.out]; rfl, rfl⟩
  · have b0 : decide (0 ≤ s) = false := decide_eq_false h0
    have HF := Aside0.mk (show insB n s = false from by unfold insB; rw [b0]; rfl)
    go_enter Tryd.func60, Tryd.ntmps60
    go_wp2
    go_ret
    exact ⟨by rw [HF.out]; rfl, rfl⟩
def badM (n : Nat) (x : Arc) : Bool := !decide (isC x.lo) || (!decide (isC x.hi) || (decide (x.hi < x.lo) || !insB n x.to))
theorem badM_iff {n : Nat} {x : Arc} : badM n x = false ↔ okM n x := by
  unfold badM okM insB
  simp only [Bool.or_eq_false_iff, Bool.not_eq_false', decide_eq_true_eq, decide_eq_false_iff_not, Bool.and_eq_true, Int.not_lt]
def GoodN (a : Nf) (s : Nat) : Prop := (∀ x ∈ a.arcs.getD s [], okM a.arcs.length x) ∧ ∀ x ∈ a.empty.getD s [], 0 ≤ x ∧ x < a.arcs.length
theorem okN_of_good {a : Nf} (h1 : 1 ≤ a.arcs.length) (h2 : a.arcs.length ≤ 3000) (h3 : a.empty.length = a.arcs.length) (h4 : 0 ≤ a.start ∧ a.start < a.arcs.length) (h5 : 0 ≤ a.acc ∧ a.acc < a.arcs.length) (h : ∀ s, s < a.arcs.length → GoodN a s) : OkN a := by
  refine ⟨h1, h2, h3, h4.1, h4.2, h5.1, h5.2, fun l hl => ?_, fun l hl => ?_⟩
  · obtain ⟨i, hi, rfl⟩ := List.mem_iff_getElem.1 hl
    have := (h i hi).1
    rwa [List.getD_eq_getElem?_getD, List.getElem?_eq_getElem hi] at this
  · obtain ⟨i, hi, rfl⟩ := List.mem_iff_getElem.1 hl
    have := (h i (by omega)).2
    rwa [List.getD_eq_getElem?_getD, List.getElem?_eq_getElem hi] at this
theorem good_of_okN {a : Nf} (h : OkN a) (s : Nat) : GoodN a s := by
  have h1 := h.arc_ok s
  have h2 := h.emp_ok s
  unfold Nf.arc at h1
  unfold Nf.emp at h2
  rw [Int.toNat_natCast] at h1 h2
  exact ⟨h1, h2⟩
def ChkN (a : Nf) (e : Ending) : Prop := (e = .returned (.int .i64 0) ∧ OkN a) ∨ (e = .returned (.int .i64 1) ∧ ¬ OkN a)
set_option maxHeartbeats 4000000 in
set_option maxRecDepth 100000 in
theorem ncheck_calls (a : Nf) (A1 : Option Addr) (c1 : Nat) (A2 : Option Addr) (c2 : Nat) (w : World) (hd : RdN w a A1 c1 A2 c2) :
    Calls Tryd.prog 28 #[.agg #[.int .i64 a.start, .int .i64 a.acc, .slice A1 a.arcs.length c1, .slice A2 a.empty.length c2]] w fun e w' => ChkN a e ∧ Below w.heap.size w w' := by
  obtain ⟨m1, m2⟩ := hd.max
  have HD := Aside0.mk hd
  clear hd
  by_cases h1 : 1 ≤ a.arcs.length
  · have b1 : decide ((a.arcs.length : Int) < 1) = false := decide_eq_false (by omega)
    by_cases h2 : a.arcs.length ≤ 3000
    · have b2 : decide ((3000 : Int) < (a.arcs.length : Int)) = false := decide_eq_false (by omega)
      by_cases h3 : a.empty.length = a.arcs.length
      · have b3 : ((a.empty.length : Int) != (a.arcs.length : Int)) = false := bne_eq_false_iff_eq.2 (by omega)
        have H3 := Aside0.mk h3
        clear h3
        by_cases h4 : 0 ≤ a.start ∧ a.start < a.arcs.length
        · have b4 : insB a.arcs.length a.start = true := insB_true h4.1 h4.2
          by_cases h5 : 0 ≤ a.acc ∧ a.acc < a.arcs.length
          · have b5 : insB a.arcs.length a.acc = true := insB_true h5.1 h5.2
            have H45 := Aside0.mk (And.intro h4 h5)
            have hp : ((w.alloc (.cells #[.int .i64 a.start, .int .i64 a.acc, .slice A1 a.arcs.length c1, .slice A2 a.empty.length c2] 46)).alloc (.cells #[.int .i64 a.arcs.length] 3)).cell? ⟨w.heap.size + 1, 0, none⟩ = some (.int .i64 a.arcs.length) := (box2_at (Below.refl _ _)).2.1 0 _ rfl
            clear h4 h5
            go_enter Tryd.func28, Tryd.ntmps28
            go_wp2_with fail
            refine (inside_calls a.start a.arcs.length _ _ hp).mono ?_
            rintro e w1 ⟨rfl, rfl⟩
            rw [b4]
            go_wp2_with fail
            refine (inside_calls a.acc a.arcs.length _ _ hp).mono ?_
            rintro e w1 ⟨rfl, rfl⟩
            rw [b5]
            clear hp
            go_wp2
            go_loopw [42] (fun i wr => ∃ k : Nat, k ≤ a.arcs.length ∧ i = .int .i64 k ∧ Aside0 (∀ j, j < k → GoodN a j) ∧ Aside0 (Below (w.heap.size + 2) ((w.alloc (.cells #[.int .i64 a.start, .int .i64 a.acc, .slice A1 a.arcs.length c1, .slice A2 a.empty.length c2] 46)).alloc (.cells #[.int .i64 a.arcs.length] 3)) wr)) (fun i _ => a.arcs.length - (intOf i).toNat)
            case atStart => exact ⟨0, by omega, rfl, ⟨fun j hj => by omega⟩, ⟨Below.refl _ _⟩⟩
            case round =>
              obtain ⟨k, hk, rfl, HG, HB⟩ := hrel
              obtain ⟨hbox, hbox2, hbel, hwz⟩ := box2_at HB.out
              by_cases hlt : k < a.arcs.length
              · obtain ⟨q1, o1, A0, c0, e, hb1, hc1, _, hrl⟩ := at_arcs (HD.out.below hbel).arcs k hlt
                cases e
                obtain ⟨q2, o2, A3, c3, e, hb2, hc2, _, hrl2⟩ := at_ints (HD.out.below hbel).empty k (by rw [H3.out]; exact hlt)
                cases e
                have x1 := hbox 2 _ rfl
                have x2 := hbox 3 _ rfl
                have x3 := hbox2 0 _ rfl
                have HRL := Aside0.mk hrl
                have HRL2 := Aside0.mk hrl2
                obtain ⟨l, hl⟩ : ∃ l, l = a.arcs.getD k [] := ⟨_, rfl⟩
                obtain ⟨es, hes⟩ : ∃ es, es = a.empty.getD k [] := ⟨_, rfl⟩
                rw [← hl] at hc1 HRL
                rw [← hes] at hc2 HRL2
                have HL := Aside0.mk hl
                have HES := Aside0.mk hes
                have HBL := Aside0.mk hbel
                have k0 : (k : Int) < (a.empty.length : Int) := by rw [H3.out]; omega
                have hll : l.length ≤ 9223372036854775807 := HRL.out.2.1
                have hel : es.length ≤ 9223372036854775807 := HRL2.out.2.1
                clear hl hes hrl hrl2 hbox hbox2 hbel
                go_wp2
                obtain ⟨wo, rfl⟩ : ∃ wo : World, wo = wr := ⟨_, rfl⟩
                go_loopg [51] l.length (fun g i wi => ∃ x : Nat, x + g = l.length ∧ i = .int .i64 x ∧ Aside0 (∀ j, j < x → badM a.arcs.length (l.getD j default) = false) ∧ Aside0 (Below wo.heap.size wo wi))
                case atStart => exact ⟨0, by omega, rfl, ⟨fun j hj => by omega⟩, ⟨Below.refl _ _⟩⟩
                case round =>
                  obtain ⟨x, hx, rfl, HG2, HB2⟩ := hrel
                  have y1 := (HB2.out.cell (p := ⟨w.heap.size, 2, none⟩) (by show w.heap.size < _; omega)).trans x1
                  have y2 := (HB2.out.cell (p := ⟨w.heap.size, 3, none⟩) (by show w.heap.size < _; omega)).trans x2
                  have y3 := (HB2.out.cell (p := ⟨w.heap.size + 1, 0, none⟩) (by show w.heap.size + 1 < _; omega)).trans x3
                  have z2 := (HB2.out.cell (p := ⟨q2, o2 + k, none⟩) hb2).trans hc2
                  by_cases hxl : x < l.length
                  · obtain ⟨q3, o3, e, hb3, hc30, hc31, hc32⟩ := at_arc (Kd.C_below HRL.out HB2.out) x hxl
                    cases e
                    obtain ⟨m, ha⟩ : ∃ m, m = l.getD x default := ⟨_, rfl⟩
                    rw [← ha] at hc30 hc31 hc32
                    have HA := Aside0.mk ha
                    have hp : (wr.alloc (.cells #[.int .i32 m.lo, .int .i32 m.hi, .int .i64 m.to] 54)).cell? ⟨w.heap.size + 1, 0, none⟩ = some (.int .i64 a.arcs.length) := cell_later0 (below_alloc (Below.refl _ _) _) y3
                    clear ha
                    have xi0 : (0 : Int) ≤ (x : Int) := by omega
                    have xi1 : (x : Int) < (l.length : Int) := by omega
                    go_upto_region 11 with (fail)
                    go_cut [82] (fun v wc => ∃ b : Bool, v = .bool b ∧ Aside0 (b = badM a.arcs.length m) ∧ Aside0 (Below wo.heap.size wo wc))
                    case first =>
                      by_cases g1 : isC m.lo
                      · have g1b : decide (isC m.lo) = true := decide_eq_true g1
                        by_cases g2 : isC m.hi
                        · have g2b : decide (isC m.hi) = true := decide_eq_true g2
                          by_cases g3 : m.lo ≤ m.hi
                          · have g3b : decide (m.hi < m.lo) = false := decide_eq_false (by omega)
                            have HV := Aside0.mk (show (!insB a.arcs.length m.to) = badM a.arcs.length m from by unfold badM; rw [g1b, g2b, g3b]; rfl)
                            clear g1 g2 g3
                            go_wp2_with fail
                            refine (ncharacter_calls m.lo _).mono ?_
                            rintro e wq ⟨rfl, rfl⟩
                            rw [g1b]
                            go_wp2_with fail
                            refine (ncharacter_calls m.hi _).mono ?_
                            rintro e wq ⟨rfl, rfl⟩
                            rw [g2b]
                            go_wp2_with fail
                            refine (inside_calls m.to a.arcs.length _ _ hp).mono ?_
                            rintro e wq ⟨rfl, rfl⟩
                            go_wp2
                            go_meet
                            case rel => exact ⟨_, rfl, HV, ⟨below_alloc HB2.out _⟩⟩
                          · have g3b : decide (m.hi < m.lo) = true := decide_eq_true (by omega)
                            have HV := Aside0.mk (show true = badM a.arcs.length m from by unfold badM; rw [g1b, g2b, g3b]; rfl)
                            clear g1 g2 g3
                            go_wp2_with fail
                            refine (ncharacter_calls m.lo _).mono ?_
                            rintro e wq ⟨rfl, rfl⟩
                            rw [g1b]
                            go_wp2_with fail
                            refine (ncharacter_calls m.hi _).mono ?_
                            rintro e wq ⟨rfl, rfl⟩
                            rw [g2b]
                            go_wp2
                            go_meet
                            case rel => exact ⟨_, rfl, HV, ⟨below_alloc HB2.out _⟩⟩
                        · have g2b : decide (isC m.hi) = false := decide_eq_false g2
                          have HV := Aside0.mk (show true = badM a.arcs.length m from by unfold badM; rw [g1b, g2b]; rfl)
                          clear g1 g2
                          go_wp2_with fail
                          refine (ncharacter_calls m.lo _).mono ?_
                          rintro e wq ⟨rfl, rfl⟩
                          rw [g1b]
                          go_wp2_with fail
                          refine (ncharacter_calls m.hi _).mono ?_
                          rintro e wq ⟨rfl, rfl⟩
                          rw [g2b]
                          go_wp2
                          go_meet
                          case rel => exact ⟨_, rfl, HV, ⟨below_alloc HB2.out _⟩⟩
                      · have g1b : decide (isC m.lo) = false := decide_eq_false g1
                        have HV := Aside0.mk (show true = badM a.arcs.length m from by unfold badM; rw [g1b]; rfl)
                        clear g1
                        go_wp2_with fail
                        refine (ncharacter_calls m.lo _).mono ?_
                        rintro e wq ⟨rfl, rfl⟩
                        rw [g1b]
                        go_wp2
                        go_meet
                        case rel => exact ⟨_, rfl, HV, ⟨below_alloc HB2.out _⟩⟩
                    case rest =>
                      obtain ⟨b, rfl, HV, HB3⟩ := hcut
                      cases b
                      · have HG3 := Aside0.mk (show ∀ j, j < x + 1 → badM a.arcs.length (l.getD j default) = false from fun j hj => by
                          rcases Nat.lt_or_ge j x with h | h
                          · exact HG2.out j h
                          · obtain rfl : j = x := by omega
                            rw [← HA.out]
                            exact HV.out.symm)
                        go_wp2
                        go_roundg (l.length - (x + 1))
                        case measure => omega
                        case rel => exact ⟨x + 1, by omega, by go_num, HG3, HB3⟩
                      · have HF := Aside0.mk (show ChkN a (.returned (.int .i64 1)) from .inr ⟨rfl, fun h => by
                          have h1 := badM_iff.2 ((good_of_okN h k).1 m (by
                            rw [← HL.out, HA.out, List.getD_eq_getElem?_getD, List.getElem?_eq_getElem hxl]
                            exact List.getElem_mem hxl))
                          rw [← HV.out] at h1
                          cases h1⟩)
                        go_wp2
                        go_ret
                        exact ⟨HF.out, HBL.out.trans (HB3.out.mono (by have := HBL.out.size; omega))⟩
                  · obtain rfl : x = l.length := by omega
                    have HF1 := Aside0.mk (show ∀ y ∈ a.arcs.getD k [], okM a.arcs.length y from fun y hy => by
                      rw [← HL.out] at hy
                      obtain ⟨i, hi, rfl⟩ := List.mem_iff_getElem.1 hy
                      have := HG2.out i hi
                      rw [List.getD_eq_getElem?_getD, List.getElem?_eq_getElem hi] at this
                      exact badM_iff.1 this)
                    have HB3 := Aside0.mk (HB.out.trans (HB2.out.mono hwz))
                    have hwz2 := HB2.out.size
                    clear HG2 hx
                    go_wp2
                    obtain ⟨wp, rfl⟩ : ∃ wp : World, wp = wr := ⟨_, rfl⟩
                    go_loopg [90] es.length (fun g i wj => ∃ x : Nat, x + g = es.length ∧ i = .int .i64 x ∧ Aside0 (∀ j, j < x → insB a.arcs.length (es.getD j 0) = true) ∧ Aside0 (Below wp.heap.size wp wj))
                    case atStart => exact ⟨0, by omega, rfl, ⟨fun j hj => by omega⟩, ⟨Below.refl _ _⟩⟩
                    case round =>
                      obtain ⟨x, hx, rfl, HG2, HB4⟩ := hrel
                      have u3 := (HB4.out.cell (p := ⟨w.heap.size + 1, 0, none⟩) (by show w.heap.size + 1 < _; omega)).trans y3
                      by_cases hxl : x < es.length
                      · obtain ⟨q5, o5, e, hb5, hc5⟩ := at_num (Kd.C_below (Kd.C_below HRL2.out HB2.out) HB4.out) x hxl
                        cases e
                        obtain ⟨m, ha⟩ : ∃ m, m = es.getD x 0 := ⟨_, rfl⟩
                        rw [← ha] at hc5
                        have HA := Aside0.mk ha
                        clear ha
                        have xi1 : (x : Int) < (es.length : Int) := by omega
                        go_wp2_with fail
                        refine (inside_calls m a.arcs.length _ _ u3).mono ?_
                        rintro e wq ⟨rfl, rfl⟩
                        by_cases hm : insB a.arcs.length m = true
                        · have HG3 := Aside0.mk (show ∀ j, j < x + 1 → insB a.arcs.length (es.getD j 0) = true from fun j hj => by
                            rcases Nat.lt_or_ge j x with h | h
                            · exact HG2.out j h
                            · obtain rfl : j = x := by omega
                              rw [← HA.out]
                              exact hm)
                          rw [hm]
                          clear hm
                          go_wp2
                          go_roundg (es.length - (x + 1))
                          case measure => omega
                          case rel => exact ⟨x + 1, by omega, by go_num, HG3, HB4⟩
                        · have hm2 : insB a.arcs.length m = false := by simpa using hm
                          have HF := Aside0.mk (show ChkN a (.returned (.int .i64 1)) from .inr ⟨rfl, fun h => by
                            have h1 := (good_of_okN h k).2 m (by
                              rw [← HES.out, HA.out, List.getD_eq_getElem?_getD, List.getElem?_eq_getElem hxl]
                              exact List.getElem_mem hxl)
                            rw [insB_true h1.1 h1.2] at hm2
                            cases hm2⟩)
                          rw [hm2]
                          clear hm hm2
                          go_wp2
                          go_ret
                          exact ⟨HF.out, HBL.out.trans ((HB2.out.trans (HB4.out.mono hwz2)).mono (by omega))⟩
                      · obtain rfl : x = es.length := by omega
                        have HF2 := Aside0.mk (show GoodN a k from ⟨HF1.out, fun y hy => by
                          rw [← HES.out] at hy
                          obtain ⟨i, hi, rfl⟩ := List.mem_iff_getElem.1 hy
                          have := HG2.out i hi
                          rw [List.getD_eq_getElem?_getD, List.getElem?_eq_getElem hi] at this
                          unfold insB at this
                          simpa using this⟩)
                        go_wp2
                        go_roundw
                        case rel =>
                          refine ⟨k + 1, by omega, by go_num, ⟨fun j hj => ?_⟩, ⟨HB3.out.trans (HB4.out.mono (by omega))⟩⟩
                          rcases Nat.lt_or_ge j k with h | h
                          · exact HG.out j h
                          · obtain rfl : j = k := by omega
                            exact HF2.out
                        case measure => simp [intOf]; omega
              · obtain rfl : k = a.arcs.length := by omega
                have HF := Aside0.mk (show ChkN a (.returned (.int .i64 0)) from .inl ⟨rfl, okN_of_good h1 h2 H3.out H45.out.1 H45.out.2 HG.out⟩)
                have x3 := hbox2 0 _ rfl
                go_wp2
                go_ret
                exact ⟨HF.out, hbel⟩
          · have b5 : insB a.arcs.length a.acc = false := insB_false h5
            have HF := Aside0.mk (show ChkN a (.returned (.int .i64 1)) from .inr ⟨rfl, fun h => h5 ⟨h.ac0, h.ac1⟩⟩)
            have hp : ((w.alloc (.cells #[.int .i64 a.start, .int .i64 a.acc, .slice A1 a.arcs.length c1, .slice A2 a.empty.length c2] 46)).alloc (.cells #[.int .i64 a.arcs.length] 3)).cell? ⟨w.heap.size + 1, 0, none⟩ = some (.int .i64 a.arcs.length) := (box2_at (Below.refl _ _)).2.1 0 _ rfl
            clear h4 h5
            go_enter Tryd.func28, Tryd.ntmps28
            go_wp2_with fail
            refine (inside_calls a.start a.arcs.length _ _ hp).mono ?_
            rintro e w1 ⟨rfl, rfl⟩
            rw [b4]
            go_wp2_with fail
            refine (inside_calls a.acc a.arcs.length _ _ hp).mono ?_
            rintro e w1 ⟨rfl, rfl⟩
            rw [b5]
            go_wp2
            go_ret
            exact ⟨HF.out, below_alloc (below_alloc (Below.refl _ _) _) _⟩
        · have b4 : insB a.arcs.length a.start = false := insB_false h4
          have HF := Aside0.mk (show ChkN a (.returned (.int .i64 1)) from .inr ⟨rfl, fun h => h4 ⟨h.st0, h.st1⟩⟩)
          have hp : ((w.alloc (.cells #[.int .i64 a.start, .int .i64 a.acc, .slice A1 a.arcs.length c1, .slice A2 a.empty.length c2] 46)).alloc (.cells #[.int .i64 a.arcs.length] 3)).cell? ⟨w.heap.size + 1, 0, none⟩ = some (.int .i64 a.arcs.length) := (box2_at (Below.refl _ _)).2.1 0 _ rfl
          clear h4
          go_enter Tryd.func28, Tryd.ntmps28
          go_wp2_with fail
          refine (inside_calls a.start a.arcs.length _ _ hp).mono ?_
          rintro e w1 ⟨rfl, rfl⟩
          rw [b4]
          go_wp2
          go_ret
          exact ⟨HF.out, below_alloc (below_alloc (Below.refl _ _) _) _⟩
      · have b3 : ((a.empty.length : Int) != (a.arcs.length : Int)) = true := bne_iff_ne.2 (by omega)
        have HF := Aside0.mk (show ChkN a (.returned (.int .i64 1)) from .inr ⟨rfl, fun h => h3 h.len⟩)
        have hp : ((w.alloc (.cells #[.int .i64 a.start, .int .i64 a.acc, .slice A1 a.arcs.length c1, .slice A2 a.empty.length c2] 46)).alloc (.cells #[.int .i64 a.arcs.length] 3)).cell? ⟨w.heap.size + 1, 0, none⟩ = some (.int .i64 a.arcs.length) := (box2_at (Below.refl _ _)).2.1 0 _ rfl
        clear h3
        go_enter Tryd.func28, Tryd.ntmps28
        skip
        go_wp2
        go_ret
        exact ⟨HF.out, below_alloc (below_alloc (Below.refl _ _) _) _⟩
    · have b2 : decide ((3000 : Int) < (a.arcs.length : Int)) = true := decide_eq_true (by omega)
      have HF := Aside0.mk (show ChkN a (.returned (.int .i64 1)) from .inr ⟨rfl, fun h => h2 h.lim⟩)
      have hp : ((w.alloc (.cells #[.int .i64 a.start, .int .i64 a.acc, .slice A1 a.arcs.length c1, .slice A2 a.empty.length c2] 46)).alloc (.cells #[.int .i64 a.arcs.length] 3)).cell? ⟨w.heap.size + 1, 0, none⟩ = some (.int .i64 a.arcs.length) := (box2_at (Below.refl _ _)).2.1 0 _ rfl
      clear h2
      go_enter Tryd.func28, Tryd.ntmps28
      skip
      go_wp2
      go_ret
      exact ⟨HF.out, below_alloc (below_alloc (Below.refl _ _) _) _⟩
  · have b1 : decide ((a.arcs.length : Int) < 1) = true := decide_eq_true (by omega)
    have HF := Aside0.mk (show ChkN a (.returned (.int .i64 1)) from .inr ⟨rfl, fun h => h1 h.pos⟩)
    have hp : ((w.alloc (.cells #[.int .i64 a.start, .int .i64 a.acc, .slice A1 a.arcs.length c1, .slice A2 a.empty.length c2] 46)).alloc (.cells #[.int .i64 a.arcs.length] 3)).cell? ⟨w.heap.size + 1, 0, none⟩ = some (.int .i64 a.arcs.length) := (box2_at (Below.refl _ _)).2.1 0 _ rfl
    clear h1
    go_enter Tryd.func28, Tryd.ntmps28
    skip
    go_wp2
    go_ret
    exact ⟨HF.out, below_alloc (below_alloc (Below.refl _ _) _) _⟩
end Go.Proofs.YthohahcpdgebbaaDoor.Wk
namespace Go.Proofs.YthohahcpdgebbaaDoor.Wk
open Go.RowKit Go.Proofs.YthohahcpdgebbaaDoorW.PrintWords Go.Proofs.YthohahcpdgebbaaDoorW.PrintLast Go.Proofs.YthohahcpdgebbaaDoorW.PrintMore
open Go.Proofs.YthohahcpdgebbaaDoor.Th
set_option linter.unusedVariables false
set_option linter.unusedSimpArgs false
set_option maxHeartbeats 2000000 in
set_option maxRecDepth 100000 in
theorem reach1_calls (s : Int) (base p1 p2 : Nat) (v1 : Value) (bs : List Bool) (ts : List Int) (w : World) (h : US w base p1 p2 v1 bs ts) (h0 : 0 ≤ s) (h1 : s < bs.length) (hl : ts.length ≤ 100000) (hbw : base ≤ w.heap.size) :
    Calls Tryd.prog 84 #[.int .i64 s, .pointer (some ⟨p1, 0, none⟩), .pointer (some ⟨p2, 0, none⟩)] w fun e w' => e = .returned (.tuple #[]) ∧ US w' base p1 p2 v1 (markB bs s) (markT bs ts s) ∧ Below base w w' := by
  obtain ⟨k1, k2, k3, k4, k5, v2, k6, k7⟩ := h
  obtain ⟨g, cap, rfl, hg0, hg1, cells, hgc⟩ := Kd.R_form k5 (by omega)
  obtain ⟨cb, fb⟩ := Kd.R_celln false k5 s h0 (by simpa using h1)
  have x1 := (cell_head k4).1
  have x2 := (cell_head k6).1
  have HS0 := Aside0.mk h0
  have e1 : rdOf false bs s = bs.getD s.toNat false := rfl
  rw [e1] at cb
  have hs1 : s < (bs.length : Int) := h1
  have t0 : decide (0 ≤ s) = true := decide_eq_true h0
  have t1 : decide (s < (bs.length : Int)) = true := decide_eq_true h1
  by_cases hb : bs.getD s.toNat false = true
  · rw [hb] at cb
    have HF := Aside0.mk (show US w base p1 p2 (.slice (some ⟨g, 0, none⟩) bs.length cap) (markB bs s) (markT bs ts s) from by
      unfold markB markT; rw [if_pos hb, if_pos hb]; exact ⟨k1, k2, k3, k4, k5, v2, k6, k7⟩)
    clear hb k4 k5 k6 k7 hgc
    go_enter Tryd.func84, Tryd.ntmps84
    go_wp2
    go_end0
    exact ⟨rfl, HF.out, Below.refl _ _⟩
  · have hb' : bs.getD s.toNat false = false := by simpa using hb
    rw [hb'] at cb
    have hgp1 := ty_ne hgc k4 (by decide)
    have hgp2 := ty_ne hgc k6 (by decide)
    obtain ⟨A2, c2, rfl⟩ := Kd.R_slice k7
    have hput := Kd.R_putg k5 s true
    have hR2 := Kd.R_set k7 hgc (fun q hq => by
      have hq' : q = 3 := by simpa [Kd.int, Kd.scalar] using hq
      rw [hq']; decide) s.toNat (.bool true)
    have kk4 : (w.setCell ⟨g, s.toNat, none⟩ (.bool true)).heap[p1]? = some (.cells #[.slice (some ⟨g, 0, none⟩) bs.length cap] 118 (0, 0)) := by
      rw [Below.heap_setCell _ _ _ _ (fun e => hgp1 e.symm)]; exact k4
    have kk6 : (w.setCell ⟨g, s.toNat, none⟩ (.bool true)).heap[p2]? = some (.cells #[.slice A2 ts.length c2] 26 (0, 0)) := by
      rw [Below.heap_setCell _ _ _ _ (fun e => hgp2 e.symm)]; exact k6
    have hBw : Below base w (w.setCell ⟨g, s.toNat, none⟩ (.bool true)) := (Below.refl _ _).setCell (p := ⟨g, s.toNat, none⟩) hg0 _
    have HP := Aside0.mk hput
    have HR2 := Aside0.mk hR2
    have HK4 := Aside0.mk kk4
    have HK6 := Aside0.mk kk6
    have HBW := Aside0.mk hBw
    have HX := Aside0.mk (show markB bs s = bs.set s.toNat true ∧ markT bs ts s = ts ++ [s] from by unfold markB markT; rw [hb']; exact ⟨rfl, rfl⟩)
    have n2 : some p2 ≠ (Value.slice A2 ts.length c2).ownBlock := Kd.R_ne hR2 kk6 (by decide)
    have n1 : some p1 ≠ (Value.slice A2 ts.length c2).ownBlock := Kd.R_ne hR2 kk4 (by decide)
    have ng : some g ≠ (Value.slice A2 ts.length c2).ownBlock := by
      obtain ⟨cells2, hgc2⟩ := Kd.R_typed hput.1 g (by simp [Value.ownBlock])
      exact Kd.R_ne hR2 hgc2 (by decide)
    have hz : (w.setCell ⟨g, s.toNat, none⟩ (.bool true)).heap.size = w.heap.size := by simp [World.setCell]
    have HN := Aside0.mk (And.intro k3 (And.intro n1 (And.intro n2 ng)))
    have HG := Aside0.mk hgp2
    have HGS := Aside0.mk hg1
    have HSZ := Aside0.mk hz
    have HB2 := Aside0.mk (And.intro (cell_head k4).2.2 (cell_head k6).2.2)
    clear n1 n2 ng hz e1
    clear hb hb' k4 k5 k6 k7 hgc hput hR2 kk4 kk6 hBw k3
    go_enter Tryd.func84, Tryd.ntmps84
    go_wp2_with (at_builtin; refine Kd.R_append (Kd.int .i64) (w0 := w) base rfl _ _ 26 3 (.int .i64 0) 8 rfl Tryd.underlying26 infoInt rfl (by decide) (by omega) (.slice A2 ts.length c2) ts s [.int .i64 s] (fun _ => True) (fun _ => False) rfl (by first | (go_simp; done) | (go_simp; rfl)) rfl (fun _ hk => hk.elim) (fun _ _ => trivial) ?aO ?aB ?aS ?aL ?_; (case aO => exact HR2.out); (case aB => exact HBW.out); (case aS => simp; omega); (case aL => omega); intro v1 w1 hR hB hg hat; obtain ⟨A3, c3, rfl⟩ := Kd.R_slice hR; have hw6 := (hg.block p2 (by rw [HSZ.out]; exact HB2.out.2) HN.out.2.2.1).trans HK6.out; have y6 := (cell_head hw6).1; have z6 := (cell_head hw6).2.1; have HW6 := Aside0.mk hw6; have HGR := Aside0.mk hg; have HR1 := Aside0.mk hR; have HB1 := Aside0.mk hB; clear hw6 hg hR hB)
    have hw4 := (HGR.out.block p1 (by rw [HSZ.out]; exact HB2.out.1) HN.out.2.1).trans HK4.out
    have hr1 := Kd.R_over' HP.out.1 (Kd.R_typed HR2.out) (fun q hq => by
      have hq' : q = 4 := by simpa [Kd.bool, Kd.scalar] using hq
      rw [hq']; decide) HGR.out
    have hr3 := Kd.R_set hr1 HW6.out (fun q hq => by
      have hq' : q = 4 := by simpa [Kd.bool, Kd.scalar] using hq
      rw [hq']; decide) 0 (.slice A3 (ts ++ [s]).length c3)
    have hr2 := Kd.R_set HR1.out HW6.out (fun q hq => by
      have hq' : q = 3 := by simpa [Kd.int, Kd.scalar] using hq
      rw [hq']; decide) 0 (.slice A3 (ts ++ [s]).length c3)
    have e5 : (ts ++ [s]).length = ts.length + 1 := by simp
    rw [e5] at hr2 hr3
    have ebs : (bs.set s.toNat true).length = bs.length := by simp
    have H2 := Aside0.mk hr2
    have H3 := Aside0.mk hr3
    clear hr1 hr2 hr3 hat e5
    go_end0
    refine ⟨rfl, ?_, HB1.out.setCell (p := ⟨p2, 0, none⟩) k2 _⟩
    rw [HX.out.1, HX.out.2]
    exact ⟨k1, k2, HN.out.1, by rw [Below.heap_setCell _ _ _ _ HN.out.1]; exact hw4, H3.out, _, set_head HW6.out _, H2.out⟩
theorem at_bool0 {w : World} {A : Option Addr} {n : Nat} {xs : List Bool} (h : Kd.bool.C w A n xs) (i : Nat) (h1 : i < n) :
    ∃ b o, A = some ⟨b, o, none⟩ ∧ b < w.heap.size ∧ w.cell? ⟨b, o + i, none⟩ = some (.bool (xs.getD i false)) := by
  obtain ⟨b, o, e, hb, hc⟩ := C_lit h (by omega) (by simp [Kd.bool, Kd.scalar]) false
  obtain ⟨c, _, hK, hc⟩ := hc i h1
  obtain rfl : c = [.bool (xs.getD i false)] := hK
  have := hc 0 _ rfl
  rw [show o + i * Kd.bool.sz + 0 = o + i by simp [Kd.bool, Kd.scalar]] at this
  exact ⟨b, o, e, hb, this⟩
set_option maxHeartbeats 4000000 in
set_option maxRecDepth 100000 in
theorem closure_calls (a : Nf) (hok : OkN a) (A1 : Option Addr) (c1 : Nat) (A2 : Option Addr) (c2 : Nat) (A0 : Option Addr) (c0 : Nat) (S : List Int) (w : World) (hd : RdN w a A1 c1 A2 c2) (hS : (Kd.int .i64).C w A0 S.length S) (hin : ∀ s ∈ S, 0 ≤ s ∧ s < a.n) :
    Calls Tryd.prog 56 #[.agg #[.int .i64 a.start, .int .i64 a.acc, .slice A1 a.arcs.length c1, .slice A2 a.empty.length c2], .slice A0 S.length c0] w fun e w' => ∃ v, e = .returned v ∧ (Kd.int .i64).R 3 w' w.heap.size (fun _ => True) v (clo a S) ∧ Below w.heap.size w w' := by
  obtain ⟨m1, m2⟩ := hd.max
  have HD := Aside0.mk hd
  have HOK := Aside0.mk hok
  have HS := Aside0.mk hS
  have HIN := Aside0.mk hin
  have hsl : S.length ≤ 9223372036854775807 := hS.2.1
  have n0 : 1 ≤ a.arcs.length := hok.pos
  have n1 : a.arcs.length ≤ 3000 := hok.lim
  have n2 : a.empty.length = a.arcs.length := hok.len
  have N2 := Aside0.mk n2
  clear hd hS hin hok n2
  go_enter Tryd.func56, Tryd.ntmps56
  go_wp2_with (refine Kd.R_make Kd.bool (w0 := w.alloc (.cells #[.int .i64 a.start, .int .i64 a.acc, .slice A1 a.arcs.length c1, .slice A2 a.empty.length c2] 46)) (w.heap.size + 1) 4 rfl rfl 118 _ _ rfl (a.arcs.length : Int) rfl rfl Tryd.underlying118 (.bool false) 1 infoBool rfl (by decide) (by decide) false (ok := fun _ => True) (okp := fun _ => False) rfl (fun _ _ => trivial) trivial (by omega) (by omega) (Below.refl _ _) (by simp) ?_; intro v2 w2 hR hB2 hg hat; rw [Int.toNat_natCast] at hR; obtain ⟨A3, c3, rfl⟩ := Kd.R_slice hR; rw [List.length_replicate] at hR ⊢; have HR := Aside0.mk hR; have HBM := Aside0.mk hB2; obtain ⟨hbox, hbel, hws⟩ := box_later hB2; clear hg hat hR hB2)
  have HUS := Aside0.mk (us_start HR.out hws)
  have HBM2 := Aside0.mk ((HBM.out.alloc hws (.cells #[.slice A3 a.arcs.length c3] 118)).alloc (by simp; omega) (.cells #[.slice none 0 0] 26))
  have HBL := Aside0.mk hbel
  clear hbox hbel
  go_loopw [23] (fun i wr => ∃ k : Nat, k ≤ S.length ∧ i = .int .i64 k ∧ Aside0 (∃ bs ts, US wr (w.heap.size + 1) w2.heap.size (w2.heap.size + 1) (.slice A3 a.arcs.length c3) bs ts ∧ GInv a.n (Rch a S) (fun p t => p ∈ a.emp t) bs ts (fun _ => False) ∧ ∀ s ∈ S.take k, bs.getD s.toNat false = true) ∧ Aside0 (Below (w.heap.size + 1) (w.alloc (.cells #[.int .i64 a.start, .int .i64 a.acc, .slice A1 a.arcs.length c1, .slice A2 a.empty.length c2] 46)) wr)) (fun i _ => S.length - (intOf i).toNat)
  case atStart => exact ⟨0, by omega, rfl, ⟨_, _, HUS.out, gInv_start _ _ _ _, fun s hs => by simp at hs⟩, HBM2⟩
  case round =>
    obtain ⟨k, hk, rfl, HQ, HB3⟩ := hrel
    obtain ⟨hbox, hbel, hwz⟩ := box_later HB3.out
    by_cases hlt : k < S.length
    · obtain ⟨q2, o2, e, hb2, hc2⟩ := at_num (Kd.C_below HS.out hbel) k hlt
      cases e
      have hmem : S.getD k 0 ∈ S := by rw [List.getD_eq_getElem?_getD, List.getElem?_eq_getElem hlt]; exact List.getElem_mem hlt
      have htk : S.take (k + 1) = S.take k ++ [S.getD k 0] := by
        rw [List.take_succ_eq_append_getElem hlt, List.getD_eq_getElem?_getD, List.getElem?_eq_getElem hlt]; rfl
      obtain ⟨y, hy⟩ : ∃ y, y = S.getD k 0 := ⟨_, rfl⟩
      rw [← hy] at hc2 hmem htk
      obtain ⟨y0, y1⟩ := HIN.out y hmem
      obtain ⟨bs, ts, hU, hM, hL⟩ := HQ.out
      have hmk := gInv_mark hM (s := y) y0 y1 (.base hmem)
      have HNX := Aside0.mk (show ∀ s ∈ S.take (k + 1), (markB bs y).getD s.toNat false = true from fun s hs => by
        rw [htk] at hs
        rcases List.mem_append.1 hs with h | h
        · exact mark_mono (hL s h)
        · rw [List.mem_singleton.1 h]
          exact mark_self (s := y) (by rw [hM.len]; omega))
      have HU := Aside0.mk hU
      have HM := Aside0.mk hmk.1
      have HCN := Aside0.mk (show ts.length ≤ 100000 from by have h1 := hM.cnt; have h2 : a.n ≤ 3000 := HOK.out.lim; omega)
      have HLN := Aside0.mk (show y < bs.length from by rw [hM.len]; exact y1)
      clear hy hU hM hL HQ hmk hmem htk hbox hbel
      go_wp2_with fail
      refine (reach1_calls y (w.heap.size + 1) w2.heap.size (w2.heap.size + 1) _ bs ts _ HU.out y0 HLN.out HCN.out hwz).mono ?_
      rintro e w3 ⟨rfl, hus, hb3⟩
      have HUS3 := Aside0.mk hus
      have HB4 := Aside0.mk (HB3.out.trans hb3)
      clear hus hb3
      go_wp2
      go_roundw
      case rel => exact ⟨k + 1, by omega, by go_num, ⟨_, _, HUS3.out, HM.out, HNX.out⟩, HB4⟩
      case measure => simp [intOf]; omega
    · obtain rfl : k = S.length := by omega
      rw [List.take_length] at HQ
      obtain ⟨bs0, ts0, hU0, hM0, hL0⟩ := HQ.out
      obtain ⟨N, hN⟩ : ∃ N, N = 2 * bs0.count false + ts0.length := ⟨_, rfl⟩
      have HQ0 := Aside0.mk (show ∃ bs ts, 2 * bs.count false + ts.length = N ∧ US wr (w.heap.size + 1) w2.heap.size (w2.heap.size + 1) (.slice A3 a.arcs.length c3) bs ts ∧ GInv a.n (Rch a S) (fun p t => p ∈ a.emp t) bs ts (fun _ => False) ∧ ∀ s ∈ S, bs.getD s.toNat false = true from ⟨bs0, ts0, hN.symm, hU0, hM0, hL0⟩)
      clear hU0 hM0 hL0 hN HQ hbox hbel
      go_wp2
      go_loopg [10] N (fun g v wr => Aside0 (∃ bs ts, 2 * bs.count false + ts.length = g ∧ US wr (w.heap.size + 1) w2.heap.size (w2.heap.size + 1) (.slice A3 a.arcs.length c3) bs ts ∧ GInv a.n (Rch a S) (fun p t => p ∈ a.emp t) bs ts (fun _ => False) ∧ ∀ s ∈ S, bs.getD s.toNat false = true) ∧ Aside0 (Below (w.heap.size + 1) (w.alloc (.cells #[.int .i64 a.start, .int .i64 a.acc, .slice A1 a.arcs.length c1, .slice A2 a.empty.length c2] 46)) wr))
      case atStart => exact ⟨HQ0, HB3⟩
      case round =>
        obtain ⟨HQ, HB4⟩ := hrel
        obtain ⟨bs, ts, hg, hU, hM, hL⟩ := HQ.out
        obtain ⟨hbox, hbel, hwz⟩ := box_later HB4.out
        have z0 := (cell_head hU.c1).1
        rcases List.eq_nil_or_concat ts with hnil | ⟨pre, s, hcat⟩
        · subst hnil
          obtain ⟨v2, k6, k7⟩ := hU.c2
          obtain ⟨A4, c4, rfl⟩ := Kd.R_slice k7
          have z2 := (cell_head k6).1
          have hfl := flagged_clo (gInv_clo HOK.out hM (fun s hs => ⟨(HIN.out s hs).1, (HIN.out s hs).2, hL s hs⟩))
          have hbl : bs.length = a.arcs.length := hM.len
          have hC := (Kd.R_reads' hU.r1).2.2
          rw [hbl] at hC
          have HF := Aside0.mk hfl
          have HC := Aside0.mk hC
          have HB5 := Aside0.mk hbel
          clear hU hM hL HQ k6 k7 hg hfl hC hbl hbox hbel
          go_wp2
          obtain ⟨wo, rfl⟩ : ∃ wo : World, wo = wr := ⟨_, rfl⟩
          go_loopw [13, 61] (fun v i wr => ∃ k : Nat, k ≤ a.arcs.length ∧ i = .int .i64 k ∧ Aside0 ((Kd.int .i64).R 3 wr wo.heap.size (fun _ => True) v (flagged bs k)) ∧ Aside0 (Below wo.heap.size wo wr)) (fun _ i _ => a.arcs.length - (intOf i).toNat)
          case atStart => exact ⟨0, by omega, rfl, ⟨Kd.R_nil _ _ _ _ _⟩, ⟨Below.refl _ _⟩⟩
          case round =>
            obtain ⟨k, hk, rfl, HO, HB6⟩ := hrel
            by_cases hlt : k < a.arcs.length
            · obtain ⟨q7, o7, e, hb7, hc7⟩ := at_bool0 (Kd.C_below HC.out HB6.out) k hlt
              cases e
              have hfs := flagged_succ bs k
              have hfl := flagged_len bs k
              obtain ⟨A8, c8, rfl⟩ := Kd.R_slice HO.out
              by_cases hb : bs.getD k false = true
              · rw [hb] at hc7
                rw [hb, if_pos rfl] at hfs
                have HFS := Aside0.mk hfs
                clear hb hfs
                obtain ⟨fl, hfl2⟩ : ∃ fl, fl = flagged bs k := ⟨_, rfl⟩
                rw [← hfl2] at hfl HO HFS ⊢
                clear hfl2
                go_wp2_with (at_builtin; refine Kd.R_append (Kd.int .i64) (w0 := wo) wo.heap.size rfl _ _ 26 3 (.int .i64 0) 8 rfl Tryd.underlying26 infoInt rfl (by decide) (by omega) (.slice A8 fl.length c8) fl (k : Int) [.int .i64 k] (fun _ => True) (fun _ => False) rfl (by first | (go_simp; done) | (go_simp; rfl)) rfl (fun _ hk => hk.elim) (fun _ _ => trivial) ?aO ?aB ?aS ?aL ?_; (case aO => exact HO.out); (case aB => exact HB6.out); (case aS => have := HB6.out.size; simp; omega); (case aL => omega); intro v1 w1 hR hB hg hat; have HRN := Aside0.mk hR; have HBN := Aside0.mk hB; clear hR hB hg hat)
                go_roundw
                case rel => exact ⟨k + 1, by omega, by go_num, ⟨by rw [HFS.out]; exact HRN.out⟩, HBN⟩
                case measure => simp [intOf]; omega
              · have hb' : bs.getD k false = false := by simpa using hb
                rw [hb'] at hc7
                rw [if_neg hb, List.append_nil] at hfs
                have HFS := Aside0.mk hfs
                clear hb hb' hfs
                go_wp2
                go_roundw
                case rel => exact ⟨k + 1, by omega, by go_num, ⟨by rw [HFS.out]; exact HO.out⟩, HB6⟩
                case measure => simp [intOf]; omega
            · obtain rfl : k = a.arcs.length := by omega
              have HR9 := Aside0.mk (Kd.R_lower HO.out (Nat.le_of_lt hwz))
              have HB9 := Aside0.mk (HB5.out.trans (HB6.out.mono (Nat.le_of_lt hwz)))
              clear HO HB6
              go_wp2
              go_ret
              exact ⟨_, rfl, by rw [← HF.out]; exact Kd.R_lower HR9.out (Nat.le_refl _), HB9.out⟩
        · rw [List.concat_eq_append] at hcat
          subst hcat
          obtain ⟨s0, s1, s2⟩ := hM.todo s (by simp)
          have hsl : Rch a S s := by
            have := hM.sound s.toNat s2
            rwa [Int.toNat_of_nonneg s0] at this
          obtain ⟨A4, c4, z1, z2, z3, ⟨b4, hA4, z4⟩, hU2, hB5⟩ := us_pop hU
          subst hA4
          have x3 := hbox 3 _ rfl
          have hMp := gInv_pop hM
          have hcnt := hMp.cnt
          have hlim : a.n ≤ 3000 := HOK.out.lim
          have hpre : pre.length ≤ 3000 := by omega
          obtain ⟨q5, o5, A5, c5, e, hb5, hc5, hl5, hr5⟩ := at_ints HD.out.empty s.toNat (by rw [N2.out]; unfold Nf.n at s1; omega)
          cases e
          replace hc5 := (hbel.cell (p := ⟨q5, o5 + s.toNat, none⟩) hb5).trans hc5
          have hbs5 := hb5
          have hp2 : w.heap.size + 1 ≤ w2.heap.size := hws
          have nq5 : q5 ≠ w2.heap.size + 1 := by omega
          have nq6 : w.heap.size ≠ w2.heap.size + 1 := by omega
          have hmem := HOK.out.emp_ok s
          have hxe : a.emp s = a.empty.getD s.toNat [] := rfl
          rw [hxe] at hmem
          obtain ⟨xs, hxs⟩ : ∃ xs, xs = a.empty.getD s.toNat [] := ⟨_, rfl⟩
          rw [← hxs] at hc5 hl5 hr5 hmem hxe
          have hg1 := hg
          rw [List.length_append, List.length_singleton] at hg1
          have HG1 := Aside0.mk hg1
          have HXE := Aside0.mk hxe
          have HXS := Aside0.mk hmem
          have HMX := Aside0.mk hMp
          have HU := Aside0.mk hU2
          have HLL := Aside0.mk hL
          have HSL := Aside0.mk hsl
          have HR5 := Aside0.mk hr5
          have hxl : xs.length ≤ 9223372036854775807 := hr5.2.1
          have HB6 := Aside0.mk (HB4.out.trans hB5)
          have s3 : s < (a.empty.length : Int) := by rw [N2.out]; exact s1
          clear hg hg1 hmem hMp hU2 hL hsl hr5 hxs hxe hM hU HQ hcnt hlim s2 s1 hB5 hbox hbel
          go_wp2
          go_loopw [51] (fun i wr => ∃ j : Nat, j ≤ xs.length ∧ i = .int .i64 j ∧ Aside0 (∃ bs' ts', 2 * bs'.count false + ts'.length ≤ 2 * bs.count false + pre.length ∧ US wr (w.heap.size + 1) w2.heap.size (w2.heap.size + 1) (.slice A3 a.arcs.length c3) bs' ts' ∧ GInv a.n (Rch a S) (fun p t => p ∈ a.emp t) bs' ts' (fun t => False ∨ t = s) ∧ (∀ s ∈ S, bs'.getD s.toNat false = true) ∧ ∀ p ∈ xs.take j, bs'.getD p.toNat false = true) ∧ Aside0 (Below (w.heap.size + 1) (w.alloc (.cells #[.int .i64 a.start, .int .i64 a.acc, .slice A1 a.arcs.length c1, .slice (some ⟨q5, o5, none⟩) a.empty.length c2] 46)) wr)) (fun i _ => xs.length - (intOf i).toNat)
          case atStart => exact ⟨0, by omega, rfl, ⟨bs, pre, Nat.le_refl _, HU.out, HMX.out, HLL.out, fun p hp => by simp at hp⟩, HB6⟩
          case round =>
            obtain ⟨j, hj, rfl, HQ7, HB7⟩ := hrel
            by_cases hjl : j < xs.length
            · obtain ⟨_, hbel7, hwz7⟩ := box_later HB7.out
              obtain ⟨q6, o6, e, hb6, hc6⟩ := at_num (Kd.C_below HR5.out hbel7) j hjl
              cases e
              obtain ⟨bs', ts', hle, hU', hM', hL', hT'⟩ := HQ7.out
              have hpm : xs.getD j 0 ∈ xs := by rw [List.getD_eq_getElem?_getD, List.getElem?_eq_getElem hjl]; exact List.getElem_mem hjl
              have htk : xs.take (j + 1) = xs.take j ++ [xs.getD j 0] := by
                rw [List.take_succ_eq_append_getElem hjl, List.getD_eq_getElem?_getD, List.getElem?_eq_getElem hjl]; rfl
              obtain ⟨p, hp⟩ : ∃ p, p = xs.getD j 0 := ⟨_, rfl⟩
              rw [← hp] at hc6 hpm htk
              obtain ⟨p0, p1⟩ := HXS.out p hpm
              have hmk := gInv_mark hM' (s := p) p0 p1 (.step HSL.out (by rw [HXE.out]; exact hpm))
              have HMK := Aside0.mk (show 2 * (markB bs' p).count false + (markT bs' ts' p).length ≤ 2 * bs.count false + pre.length from Nat.le_trans hmk.2 hle)
              have HM1 := Aside0.mk hmk.1
              have HL1 := Aside0.mk (show ∀ s ∈ S, (markB bs' p).getD s.toNat false = true from fun s h1 => mark_mono (hL' s h1))
              have HT1 := Aside0.mk (show ∀ q ∈ xs.take (j + 1), (markB bs' p).getD q.toNat false = true from fun q hq => by
                rw [htk] at hq
                rcases List.mem_append.1 hq with hq | hq
                · exact mark_mono (hT' q hq)
                · rw [List.mem_singleton.1 hq]
                  exact mark_self (s := p) (by rw [hM'.len]; omega))
              have HCN := Aside0.mk (show ts'.length ≤ 100000 from by have h1 := hM'.cnt; have h2 : a.n ≤ 3000 := HOK.out.lim; omega)
              have HLN := Aside0.mk (show p < bs'.length from by rw [hM'.len]; exact p1)
              have HU' := Aside0.mk hU'
              clear hle hU' hM' hL' hT' hpm htk hp hmk HQ7 hbel7
              go_wp2_with fail
              refine (reach1_calls p (w.heap.size + 1) w2.heap.size (w2.heap.size + 1) _ bs' ts' _ HU'.out p0 HLN.out HCN.out hwz7).mono ?_
              rintro e w3 ⟨rfl, hus, hb3⟩
              have HUS3 := Aside0.mk hus
              have HB8 := Aside0.mk (HB7.out.trans hb3)
              clear hus hb3
              go_wp2
              go_roundw
              case rel => exact ⟨j + 1, by omega, by go_num, ⟨_, _, HMK.out, HUS3.out, HM1.out, HL1.out, HT1.out⟩, HB8⟩
              case measure => simp [intOf]; omega
            · obtain rfl : j = xs.length := by omega
              obtain ⟨bs', ts', hle, hU', hM', hL', hT'⟩ := HQ7.out
              rw [List.take_length] at hT'
              have hdn := gInv_done hM' (fun p hp hpr => by
                have := hT' (p : Int) (by rw [HXE.out] at hpr; exact hpr)
                simpa using this)
              have HX := Aside0.mk (show ∃ bs1 ts1, 2 * bs1.count false + ts1.length = 2 * bs'.count false + ts'.length ∧ US wr (w.heap.size + 1) w2.heap.size (w2.heap.size + 1) (.slice A3 a.arcs.length c3) bs1 ts1 ∧ GInv a.n (Rch a S) (fun p t => p ∈ a.emp t) bs1 ts1 (fun _ => False) ∧ ∀ s ∈ S, bs1.getD s.toNat false = true from ⟨bs', ts', rfl, hU', hdn, hL'⟩)
              have HLE := Aside0.mk hle
              clear hle hU' hM' hL' hT' hdn HQ7
              go_wp2
              go_roundg (2 * bs'.count false + ts'.length)
              case measure => have h1 := HG1.out; have h2 := HLE.out; omega
              case rel => exact ⟨HX, HB7⟩
set_option maxHeartbeats 1000000 in
theorem nclosure_calls (a : Nf) (hok : OkN a) (A1 : Option Addr) (c1 : Nat) (A2 : Option Addr) (c2 : Nat) (A0 : Option Addr) (c0 : Nat) (S : List Int) (n : Nat) (hn : S.length = n) (w : World) (hd : RdN w a A1 c1 A2 c2) (hS : (Kd.int .i64).C w A0 n S) (hin : ∀ s ∈ S, 0 ≤ s ∧ s < a.n) :
    Calls Tryd.prog 65 #[.agg #[.int .i64 a.start, .int .i64 a.acc, .slice A1 a.arcs.length c1, .slice A2 a.empty.length c2], .slice A0 n c0] w fun e w' => ∃ v, e = .returned v ∧ (Kd.int .i64).R 3 w' w.heap.size (fun _ => True) v (clo a S) ∧ Below w.heap.size w w' := by
  subst hn
  have HD := Aside0.mk hd
  have HOK := Aside0.mk hok
  have HS := Aside0.mk hS
  have HIN := Aside0.mk hin
  clear hd hS hin hok
  go_enter Tryd.func65, Tryd.ntmps65
  go_wp2_with fail
  refine (ncheck_calls a A1 c1 A2 c2 _ (HD.out.below (below_alloc (Below.refl _ _) _))).mono ?_
  rintro e w1 ⟨hc, hb⟩
  have hb0 : Below (w.heap.size + 1) (w.alloc (.cells #[.int .i64 a.start, .int .i64 a.acc, .slice A1 a.arcs.length c1, .slice A2 a.empty.length c2] 46)) w1 := by
    have e : (w.alloc (.cells #[.int .i64 a.start, .int .i64 a.acc, .slice A1 a.arcs.length c1, .slice A2 a.empty.length c2] 46)).heap.size = w.heap.size + 1 := by simp
    rwa [e] at hb
  rcases hc with ⟨rfl, _⟩ | ⟨rfl, hno⟩
  case inr => exact absurd HOK.out hno
  obtain ⟨hbox, hbel, hwz⟩ := box_later hb0
  have x0 := hbox 0 _ rfl
  have x1 := hbox 1 _ rfl
  have x2 := hbox 2 _ rfl
  have x3 := hbox 3 _ rfl
  have HB := Aside0.mk hbel
  clear hb hb0 hbox hbel
  go_wp2_with fail
  refine (closure_calls a HOK.out A1 c1 A2 c2 A0 c0 S _ (HD.out.below HB.out) (Kd.C_below HS.out HB.out) HIN.out).mono ?_
  rintro e w2 ⟨v, rfl, hR, hb2⟩
  have HR := Aside0.mk (Kd.R_lower hR (Nat.le_of_lt hwz))
  have HB2 := Aside0.mk (HB.out.trans (hb2.mono (Nat.le_of_lt hwz)))
  clear hR hb2
  go_wp2
  go_ret
  exact ⟨_, rfl, HR.out, HB2.out⟩
end Go.Proofs.YthohahcpdgebbaaDoor.Wk
