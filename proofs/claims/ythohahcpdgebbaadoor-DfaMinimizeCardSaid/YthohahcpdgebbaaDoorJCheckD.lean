/- Proved: what a part of the given program (its deterministic automata, and the functions that they call) computes, and laws on that, under the conditions that each theorem names. -/
import Derived.Test.YthohahcpdgebbaaDoorJA
namespace Go.Proofs.YthohahcpdgebbaaDoor.Wk
open Go.RowKit Go.Proofs.YthohahcpdgebbaaDoorW.PrintWords Go.Proofs.YthohahcpdgebbaaDoorW.PrintLast Go.Proofs.YthohahcpdgebbaaDoorW.PrintMore
open Go.Proofs.YthohahcpdgebbaaDoor.Th
set_option linter.unusedVariables false
set_option linter.unusedSimpArgs false
def badA (n : Nat) (l : List Arc) (i : Nat) : Bool :=
  !decide (isC (l.getD i default).lo) || (!decide (isC (l.getD i default).hi) || (decide ((l.getD i default).hi < (l.getD i default).lo) || (decide ((l.getD i default).to < 0) || (decide ((n : Int) ≤ (l.getD i default).to) ||
    (decide (0 < i) && decide ((l.getD i default).lo ≤ (l.getD (i - 1) default).hi))))))
def GoodFrom (n b : Int) (l : List Arc) : Prop := ∀ i, i < l.length → isC (l.getD i default).lo ∧ isC (l.getD i default).hi ∧ (l.getD i default).lo ≤ (l.getD i default).hi ∧ 0 ≤ (l.getD i default).to ∧ (l.getD i default).to < n ∧
  (if i = 0 then b else (l.getD (i - 1) default).hi) < (l.getD i default).lo
theorem okA_iff_good {n : Int} : ∀ {l : List Arc} {b : Int}, okA n b l ↔ GoodFrom n b l
  | [], b => ⟨fun _ i hi => by simp at hi, fun _ => trivial⟩
  | a :: l, b => by
    constructor
    · rintro ⟨h1, h2, h3, h4, h5, h6, h7⟩ i hi
      cases i with
      | zero => exact ⟨h2, h3, h4, h5, h6, by simpa using h1⟩
      | succ i =>
        have := (okA_iff_good.1 h7) i (by simpa using hi)
        obtain ⟨g1, g2, g3, g4, g5, g6⟩ := this
        refine ⟨by simpa using g1, by simpa using g2, by simpa using g3, by simpa using g4, by simpa using g5, ?_⟩
        cases i with
        | zero => simpa using g6
        | succ i => simpa using g6
    · intro h
      obtain ⟨g1, g2, g3, g4, g5, g6⟩ := h 0 (by simp)
      refine ⟨by simpa using g6, g1, g2, g3, g4, g5, okA_iff_good.2 fun i hi => ?_⟩
      obtain ⟨k1, k2, k3, k4, k5, k6⟩ := h (i + 1) (by simpa using hi)
      refine ⟨by simpa using k1, by simpa using k2, by simpa using k3, by simpa using k4, by simpa using k5, ?_⟩
      cases i with
      | zero => simpa using k6
      | succ i => simpa using k6
theorem badA_iff {n : Nat} {l : List Arc} {i : Nat} : badA n l i = false ↔ isC (l.getD i default).lo ∧ isC (l.getD i default).hi ∧ (l.getD i default).lo ≤ (l.getD i default).hi ∧ 0 ≤ (l.getD i default).to ∧ (l.getD i default).to < (n : Int) ∧
    (0 < i → (l.getD (i - 1) default).hi < (l.getD i default).lo) := by
  unfold badA
  simp only [Bool.or_eq_false_iff, Bool.not_eq_false', decide_eq_true_eq, decide_eq_false_iff_not, Bool.and_eq_false_iff, Int.not_lt, Int.not_le]
  constructor
  · rintro ⟨a, b, c, d, e, f⟩
    refine ⟨a, b, c, d, e, fun hi => ?_⟩
    rcases f with f | f
    · omega
    · exact f
  · rintro ⟨a, b, c, d, e, f⟩
    refine ⟨a, b, c, d, e, ?_⟩
    rcases Nat.eq_zero_or_pos i with h | h
    · exact .inl (by omega)
    · exact .inr (f h)
theorem okA_iff_bad {n : Nat} {l : List Arc} : okA n (-1) l ↔ ∀ i, i < l.length → badA n l i = false := by
  rw [okA_iff_good]
  constructor
  · intro h i hi
    obtain ⟨g1, g2, g3, g4, g5, g6⟩ := h i hi
    exact badA_iff.2 ⟨g1, g2, g3, g4, g5, fun h0 => by rwa [if_neg (by omega)] at g6⟩
  · intro h i hi
    obtain ⟨g1, g2, g3, g4, g5, g6⟩ := badA_iff.1 (h i hi)
    refine ⟨g1, g2, g3, g4, g5, ?_⟩
    split
    · unfold isC at g1; omega
    · exact g6 (by omega)
def GoodS (d : Dfa) (s : Nat) : Prop := -1 ≤ d.labels.getD s 0 ∧ okA d.arcs.length (-1) (d.arcs.getD s [])
theorem ok_of_good {d : Dfa} (h1 : 1 ≤ d.arcs.length) (h2 : d.arcs.length ≤ 3000) (h3 : d.labels.length = d.arcs.length) (h4 : 0 ≤ d.start) (h5 : d.start < d.arcs.length) (h : ∀ s, s < d.arcs.length → GoodS d s) : Ok d := by
  refine ⟨h1, h2, h3, h4, h5, fun x hx => ?_, fun l hl => ?_⟩
  · obtain ⟨i, hi, rfl⟩ := List.mem_iff_getElem.1 hx
    have := (h i (by omega)).1
    rwa [List.getD_eq_getElem?_getD, List.getElem?_eq_getElem hi] at this
  · obtain ⟨i, hi, rfl⟩ := List.mem_iff_getElem.1 hl
    have := (h i hi).2
    rwa [List.getD_eq_getElem?_getD, List.getElem?_eq_getElem hi] at this
theorem good_of_ok {d : Dfa} (h : Ok d) {s : Nat} (hs : s < d.arcs.length) : GoodS d s := by
  constructor
  · rw [List.getD_eq_getElem?_getD, List.getElem?_eq_getElem (by rw [h.len]; exact hs)]
    exact h.labs _ (List.getElem_mem _)
  · rw [List.getD_eq_getElem?_getD, List.getElem?_eq_getElem hs]
    exact h.arcs _ (List.getElem_mem _)
theorem box_later {w wr : World} {cs : Array Value} {t : TypeId} {fr : Nat × Nat} (hb : Below (w.heap.size + 1) (w.alloc (.cells cs t fr)) wr) :
    (∀ (j : Nat) (v : Value), cs[j]? = some v → wr.cell? ⟨w.heap.size, j, none⟩ = some v) ∧ Below w.heap.size w wr ∧ w.heap.size < wr.heap.size := by
  have hs := hb.size
  simp only [World.alloc, Array.size_push] at hs
  refine ⟨fun j v hj => ?_, (below_alloc (Below.refl _ _) _).trans (hb.mono (by omega)), by omega⟩
  rw [hb.cell (p := ⟨w.heap.size, j, none⟩) (show w.heap.size < w.heap.size + 1 by omega), World.cell?_alloc_mark]
  exact hj
def ChkD (d : Dfa) (e : Ending) : Prop := (e = .returned (.int .i64 0) ∧ Ok d) ∨ (e = .returned (.int .i64 1) ∧ ¬ Ok d)
set_option maxHeartbeats 4000000 in
set_option maxRecDepth 100000 in
theorem check_calls (d : Dfa) (A1 : Option Addr) (c1 : Nat) (A2 : Option Addr) (c2 : Nat) (w : World) (hd : RdD w d A1 c1 A2 c2) :
    Calls Tryd.prog 17 #[.agg #[.int .i64 d.start, .slice A1 d.arcs.length c1, .slice A2 d.labels.length c2]] w fun e w' => ChkD d e ∧ Below w.heap.size w w' := by
  obtain ⟨m1, m2⟩ := hd.max
  have HD := Aside0.mk hd
  clear hd
  by_cases h1 : 1 ≤ d.arcs.length
  · have b1 : decide ((d.arcs.length : Int) < 1) = false := decide_eq_false (by omega)
    by_cases h2 : d.arcs.length ≤ 3000
    · have b2 : decide ((3000 : Int) < (d.arcs.length : Int)) = false := decide_eq_false (by omega)
      by_cases h3 : d.labels.length = d.arcs.length
      · have b3 : ((d.labels.length : Int) != (d.arcs.length : Int)) = false := bne_eq_false_iff_eq.2 (by omega)
        have H3 := Aside0.mk h3
        clear h3
        by_cases h4 : 0 ≤ d.start
        · have b4 : decide (d.start < 0) = false := decide_eq_false (by omega)
          by_cases h5 : d.start < d.arcs.length
          · have b5 : decide ((d.arcs.length : Int) ≤ d.start) = false := decide_eq_false (by omega)
            go_enter Tryd.func17, Tryd.ntmps17
            go_wp2
            go_loopw [38] (fun i wr => ∃ k : Nat, k ≤ d.arcs.length ∧ i = .int .i64 k ∧ Aside0 (∀ j, j < k → GoodS d j) ∧ Aside0 (Below (w.heap.size + 1) (w.alloc (.cells #[.int .i64 d.start, .slice A1 d.arcs.length c1, .slice A2 d.labels.length c2] 28)) wr)) (fun i _ => d.arcs.length - (intOf i).toNat)
            case atStart => exact ⟨0, by omega, rfl, ⟨fun j hj => by omega⟩, ⟨Below.refl _ _⟩⟩
            case round =>
              obtain ⟨k, hk, rfl, HG, HB⟩ := hrel
              obtain ⟨hbox, hbel, hwz⟩ := box_later HB.out
              by_cases hlt : k < d.arcs.length
              · obtain ⟨q1, o1, A0, c0, e, hb1, hc1, _, hrl⟩ := at_arcs (HD.out.below hbel).arcs k hlt
                cases e
                obtain ⟨q2, o2, e, hb2, hc2⟩ := at_num (HD.out.below hbel).labs k (by rw [H3.out]; exact hlt)
                cases e
                have x1 := hbox 1 _ rfl
                have x2 := hbox 2 _ rfl
                have HRL := Aside0.mk hrl
                obtain ⟨l, hl⟩ : ∃ l, l = d.arcs.getD k [] := ⟨_, rfl⟩
                obtain ⟨y, hy⟩ : ∃ y, y = d.labels.getD k 0 := ⟨_, rfl⟩
                rw [← hl] at hc1 HRL
                rw [← hy] at hc2
                have HL := Aside0.mk hl
                have HY := Aside0.mk hy
                have HBL := Aside0.mk hbel
                have k0 : (k : Int) < (d.labels.length : Int) := by rw [H3.out]; omega
                have hll : l.length ≤ 9223372036854775807 := HRL.out.2.1
                clear hl hy hrl hbox hbel
                by_cases hyy : y < -1
                · have HF := Aside0.mk (show ChkD d (.returned (.int .i64 1)) from .inr ⟨rfl, fun h => by have := (good_of_ok h hlt).1; rw [← HY.out] at this; omega⟩)
                  go_wp2
                  go_ret
                  exact ⟨HF.out, HBL.out⟩
                · have hyy' : -1 ≤ y := by omega
                  go_wp2
                  obtain ⟨wo, rfl⟩ : ∃ wo : World, wo = wr := ⟨_, rfl⟩
                  go_loopg [51] l.length (fun g i wi => ∃ x : Nat, x + g = l.length ∧ i = .int .i64 x ∧ Aside0 (∀ j, j < x → badA d.arcs.length l j = false) ∧ Aside0 (Below wo.heap.size wo wi))
                  case atStart => exact ⟨0, by omega, rfl, ⟨fun j hj => by omega⟩, ⟨Below.refl _ _⟩⟩
                  case round =>
                    obtain ⟨x, hx, rfl, HG2, HB2⟩ := hrel
                    by_cases hxl : x < l.length
                    · obtain ⟨q3, o3, e, hb3, hc30, hc31, hc32⟩ := at_arc (Kd.C_below HRL.out HB2.out) x hxl
                      cases e
                      have HP := Aside0.mk (fun (z : Nat) (hz : z < l.length) => at_arc (Kd.C_below HRL.out HB2.out) z hz)
                      obtain ⟨a, ha⟩ : ∃ a, a = l.getD x default := ⟨_, rfl⟩
                      rw [← ha] at hc30 hc31 hc32
                      have HA := Aside0.mk ha
                      clear ha
                      have xi0 : (0 : Int) ≤ (x : Int) := by omega
                      have xi1 : (x : Int) < (l.length : Int) := by omega
                      go_upto_region 12 with (fail)
                      go_cut [104] (fun v wc => ∃ b : Bool, v = .bool b ∧ Aside0 (b = badA d.arcs.length l x) ∧ Aside0 (Below wo.heap.size wo wc))
                      case first =>
                        by_cases g1 : isC a.lo
                        · have g1b : decide (isC a.lo) = true := decide_eq_true g1
                          by_cases g2 : isC a.hi
                          · have g2b : decide (isC a.hi) = true := decide_eq_true g2
                            by_cases g3 : a.lo ≤ a.hi
                            · have g3b : decide (a.hi < a.lo) = false := decide_eq_false (by omega)
                              by_cases g4 : 0 ≤ a.to
                              · have g4b : decide (a.to < 0) = false := decide_eq_false (by omega)
                                by_cases g5 : a.to < d.arcs.length
                                · have g5b : decide ((d.arcs.length : Int) ≤ a.to) = false := decide_eq_false (by omega)
                                  rcases Nat.eq_zero_or_pos x with hx0 | hx0
                                  · subst hx0
                                    have HV := Aside0.mk (show false = badA d.arcs.length l 0 from by unfold badA; rw [← HA.out, g1b, g2b, g3b, g4b, g5b]; rfl)
                                    clear g1
                                    clear g2
                                    clear g3
                                    clear g4
                                    clear g5
                                    go_quiet ((go_at_call 39; exact Calls.quiet_of_same (character_calls _ _)))
                                    go_wp2
                                    go_meet
                                    case rel => exact ⟨false, rfl, HV, ⟨pw_below_drewN (below_alloc HB2.out _) _⟩⟩
                                  · obtain ⟨y0, rfl⟩ : ∃ y0, x = y0 + 1 := ⟨x - 1, by omega⟩
                                    obtain ⟨q4, o4, e, _, _, hp1, _⟩ := HP.out y0 (by omega)
                                    cases e
                                    obtain ⟨z, hz⟩ : ∃ z, z = (l.getD y0 default).hi := ⟨_, rfl⟩
                                    rw [← hz] at hp1
                                    have HZ := Aside0.mk hz
                                    clear hz
                                    have yb : decide ((0 : Int) < (y0 : Int) + 1) = true := decide_eq_true (by omega)
                                    have yi : (y0 : Int) < (l.length : Int) := by omega
                                    have YB := Aside0.mk (show decide (0 < y0 + 1) = true from decide_eq_true (by omega))
                                    by_cases g6 : a.lo ≤ z
                                    · have g6b : decide (a.lo ≤ z) = true := decide_eq_true g6
                                      have HV := Aside0.mk (show true = badA d.arcs.length l (y0 + 1) from by unfold badA; rw [← HA.out, Nat.add_sub_cancel, ← HZ.out, YB.out, g1b, g2b, g3b, g4b, g5b, g6b]; rfl)
                                      clear g1
                                      clear g2
                                      clear g3
                                      clear g4
                                      clear g5
                                      clear g6
                                      go_quiet ((go_at_call 39; exact Calls.quiet_of_same (character_calls _ _)))
                                      go_wp2
                                      go_meet
                                      case rel => exact ⟨true, rfl, HV, ⟨pw_below_drewN (below_alloc HB2.out _) _⟩⟩
                                    · have g6b : decide (a.lo ≤ z) = false := decide_eq_false g6
                                      have HV := Aside0.mk (show false = badA d.arcs.length l (y0 + 1) from by unfold badA; rw [← HA.out, Nat.add_sub_cancel, ← HZ.out, YB.out, g1b, g2b, g3b, g4b, g5b, g6b]; rfl)
                                      clear g1
                                      clear g2
                                      clear g3
                                      clear g4
                                      clear g5
                                      clear g6
                                      go_quiet ((go_at_call 39; exact Calls.quiet_of_same (character_calls _ _)))
                                      go_wp2
                                      go_meet
                                      case rel => exact ⟨false, rfl, HV, ⟨pw_below_drewN (below_alloc HB2.out _) _⟩⟩
                                · have g5b : decide ((d.arcs.length : Int) ≤ a.to) = true := decide_eq_true (by omega)
                                  have HV := Aside0.mk (show true = badA d.arcs.length l x from by unfold badA; rw [← HA.out, g1b, g2b, g3b, g4b, g5b]; rfl)
                                  clear g1
                                  clear g2
                                  clear g3
                                  clear g4
                                  clear g5
                                  go_quiet ((go_at_call 39; exact Calls.quiet_of_same (character_calls _ _)))
                                  go_wp2
                                  go_meet
                                  case rel => exact ⟨true, rfl, HV, ⟨pw_below_drewN (below_alloc HB2.out _) _⟩⟩
                              · have g4b : decide (a.to < 0) = true := decide_eq_true (by omega)
                                have HV := Aside0.mk (show true = badA d.arcs.length l x from by unfold badA; rw [← HA.out, g1b, g2b, g3b, g4b]; rfl)
                                clear g1
                                clear g2
                                clear g3
                                clear g4
                                go_quiet ((go_at_call 39; exact Calls.quiet_of_same (character_calls _ _)))
                                go_wp2
                                go_meet
                                case rel => exact ⟨true, rfl, HV, ⟨pw_below_drewN (below_alloc HB2.out _) _⟩⟩
                            · have g3b : decide (a.hi < a.lo) = true := decide_eq_true (by omega)
                              have HV := Aside0.mk (show true = badA d.arcs.length l x from by unfold badA; rw [← HA.out, g1b, g2b, g3b]; rfl)
                              clear g1
                              clear g2
                              clear g3
                              go_quiet ((go_at_call 39; exact Calls.quiet_of_same (character_calls _ _)))
                              go_wp2
                              go_meet
                              case rel => exact ⟨true, rfl, HV, ⟨pw_below_drewN (below_alloc HB2.out _) _⟩⟩
                          · have g2b : decide (isC a.hi) = false := decide_eq_false g2
                            have HV := Aside0.mk (show true = badA d.arcs.length l x from by unfold badA; rw [← HA.out, g1b, g2b]; rfl)
                            clear g1
                            clear g2
                            go_quiet ((go_at_call 39; exact Calls.quiet_of_same (character_calls _ _)))
                            go_wp2
                            go_meet
                            case rel => exact ⟨true, rfl, HV, ⟨pw_below_drewN (below_alloc HB2.out _) _⟩⟩
                        · have g1b : decide (isC a.lo) = false := decide_eq_false g1
                          have HV := Aside0.mk (show true = badA d.arcs.length l x from by unfold badA; rw [← HA.out, g1b]; rfl)
                          clear g1
                          go_quiet ((go_at_call 39; exact Calls.quiet_of_same (character_calls _ _)))
                          go_wp2
                          go_meet
                          case rel => exact ⟨true, rfl, HV, ⟨pw_below_drewN (below_alloc HB2.out _) _⟩⟩
                      case rest =>
                        obtain ⟨b, rfl, HV, HB3⟩ := hcut
                        cases b
                        · have HG3 := Aside0.mk (show ∀ j, j < x + 1 → badA d.arcs.length l j = false from fun j hj => by
                            rcases Nat.lt_or_ge j x with h | h
                            · exact HG2.out j h
                            · obtain rfl : j = x := by omega
                              exact HV.out.symm)
                          go_wp2
                          go_roundg (l.length - (x + 1))
                          case measure => omega
                          case rel => exact ⟨x + 1, by omega, by go_num, HG3, HB3⟩
                        · have HF := Aside0.mk (show ChkD d (.returned (.int .i64 1)) from .inr ⟨rfl, fun h => by
                            have h1 := okA_iff_bad.1 (good_of_ok h hlt).2 x (by rw [← HL.out]; exact hxl)
                            rw [← HL.out, ← HV.out] at h1
                            cases h1⟩)
                          go_wp2
                          go_ret
                          exact ⟨HF.out, HBL.out.trans (HB3.out.mono (by have := HBL.out.size; omega))⟩
                    · obtain rfl : x = l.length := by omega
                      have HF := Aside0.mk (show GoodS d k from ⟨by rw [← HY.out]; exact hyy', by rw [← HL.out]; exact okA_iff_bad.2 HG2.out⟩)
                      go_wp2
                      go_roundw
                      case rel =>
                        refine ⟨k + 1, by omega, by go_num, ⟨fun j hj => ?_⟩, ⟨HB.out.trans (HB2.out.mono (by omega))⟩⟩
                        rcases Nat.lt_or_ge j k with h | h
                        · exact HG.out j h
                        · obtain rfl : j = k := by omega
                          exact HF.out
                      case measure => simp [intOf]; omega
              · obtain rfl : k = d.arcs.length := by omega
                have HF := Aside0.mk (show ChkD d (.returned (.int .i64 0)) from .inl ⟨rfl, ok_of_good h1 h2 H3.out h4 h5 HG.out⟩)
                go_wp2
                go_ret
                exact ⟨HF.out, hbel⟩
          · have b5 : decide ((d.arcs.length : Int) ≤ d.start) = true := decide_eq_true (by omega)
            have HF := Aside0.mk (show ChkD d (.returned (.int .i64 1)) from .inr ⟨rfl, fun h => h5 h.st1⟩)
            go_enter Tryd.func17, Tryd.ntmps17
            go_wp2
            go_ret
            exact ⟨HF.out, below_alloc (Below.refl _ _) _⟩
        · have b4 : decide (d.start < 0) = true := decide_eq_true (by omega)
          have HF := Aside0.mk (show ChkD d (.returned (.int .i64 1)) from .inr ⟨rfl, fun h => h4 h.st0⟩)
          go_enter Tryd.func17, Tryd.ntmps17
          go_wp2
          go_ret
          exact ⟨HF.out, below_alloc (Below.refl _ _) _⟩
      · have b3 : ((d.labels.length : Int) != (d.arcs.length : Int)) = true := bne_iff_ne.2 (by omega)
        have HF := Aside0.mk (show ChkD d (.returned (.int .i64 1)) from .inr ⟨rfl, fun h => h3 h.len⟩)
        clear h3
        go_enter Tryd.func17, Tryd.ntmps17
        go_wp2
        go_ret
        exact ⟨HF.out, below_alloc (Below.refl _ _) _⟩
    · have b2 : decide ((3000 : Int) < (d.arcs.length : Int)) = true := decide_eq_true (by omega)
      have HF := Aside0.mk (show ChkD d (.returned (.int .i64 1)) from .inr ⟨rfl, fun h => h2 h.lim⟩)
      go_enter Tryd.func17, Tryd.ntmps17
      go_wp2
      go_ret
      exact ⟨HF.out, below_alloc (Below.refl _ _) _⟩
  · have b1 : decide ((d.arcs.length : Int) < 1) = true := decide_eq_true (by omega)
    have HF := Aside0.mk (show ChkD d (.returned (.int .i64 1)) from .inr ⟨rfl, fun h => h1 h.pos⟩)
    go_enter Tryd.func17, Tryd.ntmps17
    go_wp2
    go_ret
    exact ⟨HF.out, below_alloc (Below.refl _ _) _⟩
end Go.Proofs.YthohahcpdgebbaaDoor.Wk
