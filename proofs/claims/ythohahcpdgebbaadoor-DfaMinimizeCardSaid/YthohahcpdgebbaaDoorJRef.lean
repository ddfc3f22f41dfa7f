/- Proved: what a part of the given program (its deterministic automata, and the functions that they call) computes, and laws on that, under the conditions that each theorem names. -/
import Derived.Test.YthohahcpdgebbaaDoorJCheckD
import Derived.Test.YthohahcpdgebbaaDoorJThR
import Derived.Test.YthohahcpdgebbaaDoorJUse
import Derived.Test.YthohahcpdgebbaaDoorJCls
import Derived.Test.YthohahcpdgebbaaDoorJArcs
import Derived.Test.YthohahcpdgebbaaDoorJP
import Derived.Test.YthohahcpdgebbaaDoorJMin
import Derived.Test.YthohahcpdgebbaaDoorJBuild
import Derived.Deep.RegionWith
namespace Go.Proofs.YthohahcpdgebbaaDoor.Wk
open Go.RowKit Go.Proofs.YthohahcpdgebbaaDoorW.PrintWords Go.Proofs.YthohahcpdgebbaaDoorW.PrintLast Go.Proofs.YthohahcpdgebbaaDoorW.PrintMore
open Go.Proofs.YthohahcpdgebbaaDoor.Th
set_option linter.unusedVariables false
set_option linter.unusedSimpArgs false
theorem charR_calls (r : Int) (w : World) : Calls Tryd.prog 70 #[.int .i32 r] w fun e w' => e = .returned (.bool (decide (isC r))) ∧ w' = w := by
  by_cases h0 : 0 ≤ r
  · have b0 : decide (0 ≤ r) = true := decide_eq_true h0
    by_cases h1 : r ≤ 1114111
    · have b1 : decide (r ≤ 1114111) = true := decide_eq_true h1
      by_cases h2 : r < 55296
      · have b2 : decide (r < 55296) = true := decide_eq_true h2
        have HF := Aside0.mk (show decide (isC r) = true from decide_eq_true (by unfold isC; omega))
        go_enter Tryd.func70, Tryd.ntmps70
        go_wp2
        go_ret
        exact ⟨by rw [HF.out]; rfl, rfl⟩
      · have b2 : decide (r < 55296) = false := decide_eq_false h2
        have HF := Aside0.mk (show decide (isC r) = decide (57343 < r) from decide_eq_decide.2 (by unfold isC; omega))
        go_enter Tryd.func70, Tryd.ntmps70
        go_wp2
        go_ret
        exact ⟨by rw [HF.out]; rfl, rfl⟩
    · have b1 : decide (r ≤ 1114111) = false := decide_eq_false h1
      have HF := Aside0.mk (show decide (isC r) = false from decide_eq_false (by unfold isC; omega))
      go_enter Tryd.func70, Tryd.ntmps70
      go_wp2
      go_ret
      exact ⟨by rw [HF.out]; rfl, rfl⟩
  · have b0 : decide (0 ≤ r) = false := decide_eq_false h0
    have HF := Aside0.mk (show decide (isC r) = false from decide_eq_false (by unfold isC; omega))
    go_enter Tryd.func70, Tryd.ntmps70
    go_wp2
    go_ret
    exact ⟨by rw [HF.out]; rfl, rfl⟩
theorem beforeR_calls (r : Int) (h0 : -2147483648 < r) (h1 : r ≤ 2147483647) (w : World) : Calls Tryd.prog 73 #[.int .i32 r] w fun e w' => e = .returned (.int .i32 (pv r)) ∧ w' = w := by
  by_cases h : r = 57344
  · subst h
    go_enter Tryd.func73, Tryd.ntmps73
    go_wp2
    go_ret
    exact ⟨rfl, rfl⟩
  · have e : pv r = r - 1 := by unfold pv; rw [if_neg h]
    rw [e]
    go_enter Tryd.func73, Tryd.ntmps73
    go_wp2
    go_ret
    exact ⟨rfl, rfl⟩
def ArcsIs (n : Nat) (l : List Arc) (e : Ending) : Prop := (e = .returned (.bool true) ∧ okA n (-1) l) ∨ (e = .returned (.bool false) ∧ ¬ okA n (-1) l)
set_option maxHeartbeats 4000000 in
set_option maxRecDepth 100000 in
theorem arcsR_calls (A0 : Option Addr) (c0 : Nat) (l : List Arc) (n : Nat) (w : World) (hl : kArc.C w A0 l.length l) :
    Calls Tryd.prog 40 #[.slice A0 l.length c0, .int .i64 n] w fun e w' => ArcsIs n l e ∧ Below w.heap.size w w' := by
  have hll : l.length ≤ 9223372036854775807 := hl.2.1
  have HRL := Aside0.mk hl
  clear hl
  go_enter Tryd.func40, Tryd.ntmps40
  go_wp2
  go_loopw [5] (fun i wi => ∃ x : Nat, x ≤ l.length ∧ i = .int .i64 x ∧ Aside0 (∀ j, j < x → badA n l j = false) ∧ Aside0 (Below w.heap.size w wi)) (fun i _ => l.length - (intOf i).toNat)
  case atStart => exact ⟨0, by omega, rfl, ⟨fun j hj => by omega⟩, ⟨Below.refl _ _⟩⟩
  case round =>
    obtain ⟨x, hx, rfl, HG2, HB2⟩ := hrel
    by_cases hxl : x < l.length
    · obtain ⟨q3, o3, e, hb3, hc30, hc31, hc32⟩ := at_arc (Kd.C_below HRL.out HB2.out) x hxl
      cases e
      have HP := Aside0.mk (fun (z : Nat) (hz : z < l.length) => at_arc (Kd.C_below HRL.out HB2.out) z hz)
      obtain ⟨a, ha⟩ : ∃ a, a = l.getD x default := ⟨_, rfl⟩
      rw [← ha] at hc30 hc31 hc32
      have HA := Aside0.mk ha
      clear ha
      have xi0 : (0 : Int) ≤ (x : Int) := by omega
      have xi1 : (x : Int) < (l.length : Int) := by omega
      have HBAD := Aside0.mk (fun (h : badA n l x = true) => (show ArcsIs n l (.returned (.bool false)) from .inr ⟨rfl, fun hh => by
        have h1 := okA_iff_bad.1 hh x hxl
        rw [h] at h1
        cases h1⟩))
      have HGOOD := Aside0.mk (fun (h : badA n l x = false) => (show ∀ j, j < x + 1 → badA n l j = false from fun j hj => by
        rcases Nat.lt_or_ge j x with h' | h'
        · exact HG2.out j h'
        · obtain rfl : j = x := by omega
          exact h))
      go_upto_region 5 with (fail)
      go_cut [65] (fun v wc => ∃ b : Bool, v = .bool b ∧ Aside0 (b = badA n l x) ∧ Aside0 (Below w.heap.size w wc))
      case first =>
        by_cases g1 : isC a.lo
        · have g1b : decide (isC a.lo) = true := decide_eq_true g1
          by_cases g2 : isC a.hi
          · have g2b : decide (isC a.hi) = true := decide_eq_true g2
            by_cases g3 : a.lo ≤ a.hi
            · have g3b : decide (a.hi < a.lo) = false := decide_eq_false (by omega)
              by_cases g4 : 0 ≤ a.to
              · have g4b : decide (a.to < 0) = false := decide_eq_false (by omega)
                by_cases g5 : a.to < n
                · have g5b : decide ((n : Int) ≤ a.to) = false := decide_eq_false (by omega)
                  rcases Nat.eq_zero_or_pos x with hx0 | hx0
                  · subst hx0
                    have HV := Aside0.mk (show false = badA n l 0 from by unfold badA; rw [← HA.out, g1b, g2b, g3b, g4b, g5b]; rfl)
                    clear g1 g2 g3 g4 g5
                    go_quiet ((go_at_call 70; exact Calls.quiet_of_same (charR_calls _ _)))
                    go_wp2
                    go_meet
                    case rel => exact ⟨false, rfl, HV, ⟨pw_below_drewN (below_alloc HB2.out _) _⟩⟩
                  · obtain ⟨y0, rfl⟩ : ∃ y0, x = y0 + 1 := ⟨x - 1, by omega⟩
                    obtain ⟨q4, o4, e, _, _, hp1, _⟩ := HP.out y0 (by omega)
                    cases e
                    obtain ⟨z, hz⟩ : ∃ z, z = (l.getD y0 default).hi := ⟨_, rfl⟩
                    rw [← hz] at hp1
                    have HZ := Aside0.mk hz
                    clear hz
                    have yb : decide ((0 : Int) < (y0 : Int) + 1) = true := decide_eq_true (by omega)
                    have yi : (y0 : Int) < (l.length : Int) := by omega
                    have YB := Aside0.mk (show decide (0 < y0 + 1) = true from decide_eq_true (by omega))
                    by_cases g6 : a.lo ≤ z
                    · have g6b : decide (a.lo ≤ z) = true := decide_eq_true g6
                      have HV := Aside0.mk (show true = badA n l (y0 + 1) from by unfold badA; rw [← HA.out, Nat.add_sub_cancel, ← HZ.out, YB.out, g1b, g2b, g3b, g4b, g5b, g6b]; rfl)
                      clear g1 g2 g3 g4 g5 g6
                      go_quiet ((go_at_call 70; exact Calls.quiet_of_same (charR_calls _ _)))
                      go_wp2
                      go_meet
                      case rel => exact ⟨true, rfl, HV, ⟨pw_below_drewN (below_alloc HB2.out _) _⟩⟩
                    · have g6b : decide (a.lo ≤ z) = false := decide_eq_false g6
                      have HV := Aside0.mk (show false = badA n l (y0 + 1) from by unfold badA; rw [← HA.out, Nat.add_sub_cancel, ← HZ.out, YB.out, g1b, g2b, g3b, g4b, g5b, g6b]; rfl)
                      clear g1 g2 g3 g4 g5 g6
                      go_quiet ((go_at_call 70; exact Calls.quiet_of_same (charR_calls _ _)))
                      go_wp2
                      go_meet
                      case rel => exact ⟨false, rfl, HV, ⟨pw_below_drewN (below_alloc HB2.out _) _⟩⟩
                · have g5b : decide ((n : Int) ≤ a.to) = true := decide_eq_true (by omega)
                  have HV := Aside0.mk (show true = badA n l x from by unfold badA; rw [← HA.out, g1b, g2b, g3b, g4b, g5b]; rfl)
                  clear g1 g2 g3 g4 g5
                  go_quiet ((go_at_call 70; exact Calls.quiet_of_same (charR_calls _ _)))
                  go_wp2
                  go_meet
                  case rel => exact ⟨true, rfl, HV, ⟨pw_below_drewN (below_alloc HB2.out _) _⟩⟩
              · have g4b : decide (a.to < 0) = true := decide_eq_true (by omega)
                have HV := Aside0.mk (show true = badA n l x from by unfold badA; rw [← HA.out, g1b, g2b, g3b, g4b]; rfl)
                clear g1 g2 g3 g4
                go_quiet ((go_at_call 70; exact Calls.quiet_of_same (charR_calls _ _)))
                go_wp2
                go_meet
                case rel => exact ⟨true, rfl, HV, ⟨pw_below_drewN (below_alloc HB2.out _) _⟩⟩
            · have g3b : decide (a.hi < a.lo) = true := decide_eq_true (by omega)
              have HV := Aside0.mk (show true = badA n l x from by unfold badA; rw [← HA.out, g1b, g2b, g3b]; rfl)
              clear g1 g2 g3
              go_quiet ((go_at_call 70; exact Calls.quiet_of_same (charR_calls _ _)))
              go_wp2
              go_meet
              case rel => exact ⟨true, rfl, HV, ⟨pw_below_drewN (below_alloc HB2.out _) _⟩⟩
          · have g2b : decide (isC a.hi) = false := decide_eq_false g2
            have HV := Aside0.mk (show true = badA n l x from by unfold badA; rw [← HA.out, g1b, g2b]; rfl)
            clear g1 g2
            go_quiet ((go_at_call 70; exact Calls.quiet_of_same (charR_calls _ _)))
            go_wp2
            go_meet
            case rel => exact ⟨true, rfl, HV, ⟨pw_below_drewN (below_alloc HB2.out _) _⟩⟩
        · have g1b : decide (isC a.lo) = false := decide_eq_false g1
          have HV := Aside0.mk (show true = badA n l x from by unfold badA; rw [← HA.out, g1b]; rfl)
          clear g1
          go_quiet ((go_at_call 70; exact Calls.quiet_of_same (charR_calls _ _)))
          go_wp2
          go_meet
          case rel => exact ⟨true, rfl, HV, ⟨pw_below_drewN (below_alloc HB2.out _) _⟩⟩
      case rest =>
        obtain ⟨b, rfl, HV, HB3⟩ := hcut
        cases b
        · have HG3 := Aside0.mk (HGOOD.out HV.out.symm)
          go_wp2
          go_roundw
          case rel => exact ⟨x + 1, by omega, by go_num, HG3, HB3⟩
          case measure => simp [intOf]; omega
        · have HF := Aside0.mk (HBAD.out HV.out.symm)
          go_wp2
          go_ret
          exact ⟨HF.out, HB3.out⟩
    · obtain rfl : x = l.length := by omega
      have HF := Aside0.mk (show ArcsIs n l (.returned (.bool true)) from .inl ⟨rfl, okA_iff_bad.2 HG2.out⟩)
      go_wp2
      go_ret
      exact ⟨HF.out, HB2.out⟩
set_option maxHeartbeats 4000000 in
set_option maxRecDepth 100000 in
theorem checkR_calls (d : Dfa) (A1 : Option Addr) (c1 : Nat) (A2 : Option Addr) (c2 : Nat) (w : World) (hd : RdD w d A1 c1 A2 c2) :
    Calls Tryd.prog 18 #[.agg #[.int .i64 d.start, .slice A1 d.arcs.length c1, .slice A2 d.labels.length c2]] w fun e w' => ChkD d e ∧ Below w.heap.size w w' := by
  obtain ⟨m1, m2⟩ := hd.max
  have HD := Aside0.mk hd
  clear hd
  by_cases h1 : 1 ≤ d.arcs.length
  · have b1 : decide ((d.arcs.length : Int) < 1) = false := decide_eq_false (by omega)
    by_cases h2 : d.arcs.length ≤ 3000
    · have b2 : decide ((3000 : Int) < (d.arcs.length : Int)) = false := decide_eq_false (by omega)
      by_cases h3 : d.labels.length = d.arcs.length
      · have b3 : ((d.labels.length : Int) != (d.arcs.length : Int)) = false := bne_eq_false_iff_eq.2 (by omega)
        have H3 := Aside0.mk h3
        clear h3
        by_cases h4 : 0 ≤ d.start
        · have b4 : decide (d.start < 0) = false := decide_eq_false (by omega)
          by_cases h5 : d.start < d.arcs.length
          · have b5 : decide ((d.arcs.length : Int) ≤ d.start) = false := decide_eq_false (by omega)
            go_enter Tryd.func18, Tryd.ntmps18
            go_wp2
            go_loopw [4] (fun i wr => ∃ k : Nat, k ≤ d.arcs.length ∧ i = .int .i64 k ∧ Aside0 (∀ j, j < k → GoodS d j) ∧ Aside0 (Below (w.heap.size + 1) (w.alloc (.cells #[.int .i64 d.start, .slice A1 d.arcs.length c1, .slice A2 d.labels.length c2] 28)) wr)) (fun i _ => d.arcs.length - (intOf i).toNat)
            case atStart => exact ⟨0, by omega, rfl, ⟨fun j hj => by omega⟩, ⟨Below.refl _ _⟩⟩
            case round =>
              obtain ⟨k, hk, rfl, HG, HB⟩ := hrel
              obtain ⟨hbox, hbel, hwz⟩ := box_later HB.out
              by_cases hlt : k < d.arcs.length
              · obtain ⟨q1, o1, A0, c0, e, hb1, hc1, _, hrl⟩ := at_arcs (HD.out.below hbel).arcs k hlt
                cases e
                obtain ⟨q2, o2, e, hb2, hc2⟩ := at_num (HD.out.below hbel).labs k (by rw [H3.out]; exact hlt)
                cases e
                have x1 := hbox 1 _ rfl
                have x2 := hbox 2 _ rfl
                have HRL := Aside0.mk hrl
                obtain ⟨l, hl⟩ : ∃ l, l = d.arcs.getD k [] := ⟨_, rfl⟩
                obtain ⟨y, hy⟩ : ∃ y, y = d.labels.getD k 0 := ⟨_, rfl⟩
                rw [← hl] at hc1 HRL
                rw [← hy] at hc2
                have HL := Aside0.mk hl
                have HY := Aside0.mk hy
                have HBL := Aside0.mk hbel
                have k0 : (k : Int) < (d.labels.length : Int) := by rw [H3.out]; omega
                have hll : l.length ≤ 9223372036854775807 := HRL.out.2.1
                have hwz' : w.heap.size + 1 ≤ wr.heap.size := hwz
                clear hl hy hrl hbox hbel
                by_cases hyy : y < -1
                · have HF := Aside0.mk (show ChkD d (.returned (.int .i64 1)) from .inr ⟨rfl, fun h => by have := (good_of_ok h hlt).1; rw [← HY.out] at this; omega⟩)
                  have hyb : decide (y < -1) = true := decide_eq_true hyy
                  go_wp2
                  go_ret
                  exact ⟨HF.out, HBL.out⟩
                · have hyy' : -1 ≤ y := by omega
                  have hyb : decide (y < -1) = false := decide_eq_false hyy
                  go_wp2_with fail
                  refine (arcsR_calls A0 c0 l d.arcs.length _ HRL.out).mono ?_
                  rintro e w2 ⟨hb, hbw⟩
                  have HB2 := Aside0.mk (HB.out.trans (hbw.mono hwz'))
                  have HBL2 := Aside0.mk (HBL.out.trans (hbw.mono (by omega)))
                  clear hbw
                  rcases hb with ⟨rfl, hb⟩ | ⟨rfl, hb⟩
                  rotate_left
                  · have HF := Aside0.mk (show ChkD d (.returned (.int .i64 1)) from .inr ⟨rfl, fun h => by
                      have h1 := (good_of_ok h hlt).2
                      rw [← HL.out] at h1
                      exact hb h1⟩)
                    clear hb
                    go_wp2
                    go_ret
                    exact ⟨HF.out, HBL2.out⟩
                  · have HF := Aside0.mk (show GoodS d k from ⟨by rw [← HY.out]; exact hyy', by rw [← HL.out]; exact hb⟩)
                    clear hb
                    go_wp2
                    go_roundw
                    case rel =>
                      refine ⟨k + 1, by omega, by go_num, ⟨fun j hj => ?_⟩, HB2⟩
                      rcases Nat.lt_or_ge j k with h | h
                      · exact HG.out j h
                      · obtain rfl : j = k := by omega
                        exact HF.out
                    case measure => simp [intOf]; omega
              · obtain rfl : k = d.arcs.length := by omega
                have HF := Aside0.mk (show ChkD d (.returned (.int .i64 0)) from .inl ⟨rfl, ok_of_good h1 h2 H3.out h4 h5 HG.out⟩)
                go_wp2
                go_ret
                exact ⟨HF.out, hbel⟩
          · have b5 : decide ((d.arcs.length : Int) ≤ d.start) = true := decide_eq_true (by omega)
            have HF := Aside0.mk (show ChkD d (.returned (.int .i64 1)) from .inr ⟨rfl, fun h => h5 h.st1⟩)
            go_enter Tryd.func18, Tryd.ntmps18
            go_wp2
            go_ret
            exact ⟨HF.out, below_alloc (Below.refl _ _) _⟩
        · have b4 : decide (d.start < 0) = true := decide_eq_true (by omega)
          have HF := Aside0.mk (show ChkD d (.returned (.int .i64 1)) from .inr ⟨rfl, fun h => h4 h.st0⟩)
          go_enter Tryd.func18, Tryd.ntmps18
          go_wp2
          go_ret
          exact ⟨HF.out, below_alloc (Below.refl _ _) _⟩
      · have b3 : ((d.labels.length : Int) != (d.arcs.length : Int)) = true := bne_iff_ne.2 (by omega)
        have HF := Aside0.mk (show ChkD d (.returned (.int .i64 1)) from .inr ⟨rfl, fun h => h3 h.len⟩)
        clear h3
        go_enter Tryd.func18, Tryd.ntmps18
        go_wp2
        go_ret
        exact ⟨HF.out, below_alloc (Below.refl _ _) _⟩
    · have b2 : decide ((3000 : Int) < (d.arcs.length : Int)) = true := decide_eq_true (by omega)
      have HF := Aside0.mk (show ChkD d (.returned (.int .i64 1)) from .inr ⟨rfl, fun h => h2 h.lim⟩)
      go_enter Tryd.func18, Tryd.ntmps18
      go_wp2
      go_ret
      exact ⟨HF.out, below_alloc (Below.refl _ _) _⟩
  · have b1 : decide ((d.arcs.length : Int) < 1) = true := decide_eq_true (by omega)
    have HF := Aside0.mk (show ChkD d (.returned (.int .i64 1)) from .inr ⟨rfl, fun h => h1 h.pos⟩)
    go_enter Tryd.func18, Tryd.ntmps18
    go_wp2
    go_ret
    exact ⟨HF.out, below_alloc (Below.refl _ _) _⟩
theorem stp_drop {l : List Arc} {k : Nat} {r : Int} (hk : k < l.length) : stp (l.drop k) r = if (l.getD k default).lo ≤ r ∧ r ≤ (l.getD k default).hi then some (l.getD k default).to else stp (l.drop (k + 1)) r := by
  rw [List.drop_eq_getElem_cons hk]
  have e : l.getD k default = l[k] := by rw [List.getD_eq_getElem?_getD, List.getElem?_eq_getElem hk]; rfl
  rw [e]
  rfl
set_option maxHeartbeats 2000000 in
set_option maxRecDepth 100000 in
theorem stepR_calls (d : Dfa) (A1 : Option Addr) (c1 : Nat) (A2 : Option Addr) (c2 : Nat) (s : Nat) (r : Int) (w : World) (hd : RdD w d A1 c1 A2 c2) (hs : s < d.n) :
    Calls Tryd.prog 44 #[.agg #[.int .i64 d.start, .slice A1 d.arcs.length c1, .slice A2 d.labels.length c2], .int .i64 s, .int .i32 r] w fun e w' => e = .returned (.int .i64 ((stp (d.arc s) r).getD (-1))) ∧ Below w.heap.size w w' := by
  obtain ⟨m1, m2⟩ := hd.max
  have hs' : s < d.arcs.length := hs
  have harc : d.arc s = d.arcs.getD s [] := by unfold Dfa.arc; rw [Int.toNat_natCast]
  have HD := Aside0.mk hd
  obtain ⟨l, hl⟩ : ∃ l, l = d.arcs.getD s [] := ⟨_, rfl⟩
  rw [harc, ← hl]
  have HL := Aside0.mk hl
  clear hd harc hl hs
  go_enter Tryd.func44, Tryd.ntmps44
  go_wp2
  go_loopw [7] (fun i wr => ∃ k : Nat, i = .int .i64 k ∧ Aside0 (stp l r = stp (l.drop k) r) ∧ Aside0 (k ≤ l.length) ∧ Aside0 (Below (w.heap.size + 1) (w.alloc (.cells #[.int .i64 d.start, .slice A1 d.arcs.length c1, .slice A2 d.labels.length c2] 28)) wr)) (fun i _ => l.length - (intOf i).toNat)
  case atStart => exact ⟨0, rfl, ⟨by simp⟩, ⟨by omega⟩, ⟨Below.refl _ _⟩⟩
  case round =>
    obtain ⟨k, rfl, HS, HK, HB⟩ := hrel
    obtain ⟨hbox, hbel, hwz⟩ := box_later HB.out
    have x1 := hbox 1 _ rfl
    obtain ⟨q1, o1, A0, c0, e, hb1, hc1, _, hrl⟩ := at_arcs (HD.out.below hbel).arcs s hs'
    cases e
    rw [← HL.out] at hc1 hrl
    have hll : l.length ≤ 9223372036854775807 := hrl.2.1
    have HBL := Aside0.mk hbel
    have hk := HK.out
    have hsi : (s : Int) < (d.arcs.length : Int) := by omega
    by_cases hlt : k < l.length
    · obtain ⟨q3, o3, e, hb3, u0, u1, u2⟩ := at_arc hrl k hlt
      cases e
      have hst := stp_drop (r := r) hlt
      obtain ⟨a, ha⟩ : ∃ a, a = l.getD k default := ⟨_, rfl⟩
      rw [← ha] at u0 u1 u2 hst
      have HST := Aside0.mk (HS.out.trans hst)
      have hki : (k : Int) < (l.length : Int) := by omega
      clear ha hst hrl hbox hbel
      by_cases k1 : a.lo ≤ r
      · have b1 : decide (a.lo ≤ r) = true := decide_eq_true k1
        by_cases k2 : r ≤ a.hi
        · have b2 : decide (r ≤ a.hi) = true := decide_eq_true k2
          have HF := Aside0.mk (show (stp l r).getD (-1) = a.to from by rw [HST.out, if_pos ⟨k1, k2⟩]; rfl)
          clear k1 k2
          go_wp2
          go_ret
          exact ⟨by rw [HF.out]; rfl, HBL.out⟩
        · have b2 : decide (r ≤ a.hi) = false := decide_eq_false k2
          have HF := Aside0.mk (show stp l r = stp (l.drop (k + 1)) r from by rw [HST.out, if_neg (fun h => k2 h.2)])
          clear k1 k2
          go_wp2
          go_roundw
          case rel => exact ⟨k + 1, by go_num, HF, ⟨by omega⟩, HB⟩
          case measure => simp [intOf]; omega
      · have b1 : decide (a.lo ≤ r) = false := decide_eq_false k1
        have HF := Aside0.mk (show stp l r = stp (l.drop (k + 1)) r from by rw [HST.out, if_neg (fun h => k1 h.1)])
        clear k1
        go_wp2
        go_roundw
        case rel => exact ⟨k + 1, by go_num, HF, ⟨by omega⟩, HB⟩
        case measure => simp [intOf]; omega
    · have hke : k = l.length := by omega
      subst hke
      have HF := Aside0.mk (show (stp l r).getD (-1) = -1 from by rw [HS.out, List.drop_length]; rfl)
      clear hrl hbox hbel
      go_wp2
      go_ret
      exact ⟨by rw [HF.out]; rfl, HBL.out⟩
theorem lab_atR {d : Dfa} (hd : Ok d) {s : Nat} (hs : s < d.n) : d.labels.getD s 0 = d.lab s := by
  unfold Dfa.lab
  rw [Int.toNat_natCast, List.getD_eq_getElem?_getD, List.getD_eq_getElem?_getD, List.getElem?_eq_getElem (show s < d.labels.length by rw [hd.len]; omega)]
  rfl
theorem labelR_calls (d : Dfa) (hok : Ok d) (A1 : Option Addr) (c1 : Nat) (A2 : Option Addr) (c2 : Nat) (s : Nat) (w : World) (hd : RdD w d A1 c1 A2 c2) (hs : s ≤ d.n) :
    Calls Tryd.prog 81 #[.agg #[.int .i64 d.start, .slice A1 d.arcs.length c1, .slice A2 d.labels.length c2], .int .i64 s] w fun e w' => e = .returned (.int .i64 (d.lab s)) ∧ Below w.heap.size w w' := by
  obtain ⟨m1, m2⟩ := hd.max
  have HD := Aside0.mk hd
  have HOK := Aside0.mk hok
  clear hd hok
  by_cases hlt : s < d.n
  · have hlt' : s < d.arcs.length := hlt
    have hsb : ((s : Int) == (d.arcs.length : Int)) = false := beq_eq_false_iff_ne.2 (by omega)
    obtain ⟨q2, o2, e, hb2, hc2⟩ := at_num (HD.out.below (below_alloc (Below.refl _ _) (.cells #[.int .i64 d.start, .slice A1 d.arcs.length c1, .slice A2 d.labels.length c2] 28))).labs s (by rw [HOK.out.len]; exact hlt)
    cases e
    rw [lab_atR HOK.out hlt] at hc2
    have hsl : (s : Int) < (d.labels.length : Int) := by rw [HOK.out.len]; unfold Dfa.n at *; omega
    go_enter Tryd.func81, Tryd.ntmps81
    go_wp2
    go_ret
    exact ⟨rfl, below_alloc (Below.refl _ _) _⟩
  · have he : s = d.arcs.length := by unfold Dfa.n at *; omega
    subst he
    have hsb : ((d.arcs.length : Int) == (d.arcs.length : Int)) = true := beq_self_eq_true _
    have HF := Aside0.mk (lab_out HOK.out)
    go_enter Tryd.func81, Tryd.ntmps81
    go_wp2
    go_ret
    exact ⟨by have := HF.out; unfold Dfa.n at this; rw [this]; rfl, below_alloc (Below.refl _ _) _⟩
theorem nextR_calls (d : Dfa) (hok : Ok d) (A1 : Option Addr) (c1 : Nat) (A2 : Option Addr) (c2 : Nat) (s : Nat) (r : Int) (w : World) (hd : RdD w d A1 c1 A2 c2) (hs : s ≤ d.n) :
    Calls Tryd.prog 82 #[.agg #[.int .i64 d.start, .slice A1 d.arcs.length c1, .slice A2 d.labels.length c2], .int .i64 s, .int .i32 r] w fun e w' => e = .returned (.int .i64 (nxt d s r)) ∧ Below w.heap.size w w' := by
  obtain ⟨m1, m2⟩ := hd.max
  have HD := Aside0.mk hd
  have HOK := Aside0.mk hok
  clear hd hok
  have hbw0 : Below w.heap.size w (w.alloc (.cells #[.int .i64 d.start, .slice A1 d.arcs.length c1, .slice A2 d.labels.length c2] 28)) := below_alloc (Below.refl _ _) _
  have HBW0 := Aside0.mk hbw0
  clear hbw0
  by_cases hlt : s < d.n
  · have hlt' : s < d.arcs.length := hlt
    have hsb : ((s : Int) == (d.arcs.length : Int)) = false := beq_eq_false_iff_ne.2 (by omega)
    go_enter Tryd.func82, Tryd.ntmps82
    go_wp2_with fail
    refine (stepR_calls d A1 c1 A2 c2 s r _ (HD.out.below HBW0.out) hlt).mono ?_
    rintro e w1 ⟨rfl, hb1⟩
    have HB1 := Aside0.mk (HBW0.out.trans (hb1.mono (by simp)))
    clear hb1
    cases hst : stp (d.arc s) r with
    | none =>
      have HF := Aside0.mk (show nxt d s r = d.arcs.length from by unfold nxt; rw [hst]; rfl)
      clear hst
      simp only [Option.getD_none]
      go_wp2
      go_ret
      exact ⟨by rw [HF.out]; rfl, HB1.out⟩
    | some t =>
      obtain ⟨m, rfl, hm⟩ := stp_in HOK.out hst
      have HF := Aside0.mk (show nxt d s r = m from by unfold nxt; rw [hst]; show ((m : Int)).toNat = m; omega)
      have hmb : decide ((m : Int) < 0) = false := decide_eq_false (by omega)
      clear hst
      simp only [Option.getD_some]
      go_wp2
      go_ret
      exact ⟨by rw [HF.out]; rfl, HB1.out⟩
  · have he : s = d.arcs.length := by unfold Dfa.n at *; omega
    subst he
    have hsb : ((d.arcs.length : Int) == (d.arcs.length : Int)) = true := beq_self_eq_true _
    have HF := Aside0.mk (show nxt d d.arcs.length r = d.arcs.length from by
      unfold nxt
      have : stp (d.arc (d.arcs.length : Int)) r = none := by
        have h := arc_out d
        unfold Dfa.n at h
        rw [h]
        rfl
      rw [this]
      rfl)
    go_enter Tryd.func82, Tryd.ntmps82
    go_wp2
    go_ret
    exact ⟨by rw [HF.out]; rfl, HBW0.out⟩
end Go.Proofs.YthohahcpdgebbaaDoor.Wk
namespace Go.Proofs.YthohahcpdgebbaaDoor.Wk
open Go.RowKit Go.Proofs.YthohahcpdgebbaaDoorW.PrintWords Go.Proofs.YthohahcpdgebbaaDoorW.PrintLast Go.Proofs.YthohahcpdgebbaaDoorW.PrintMore
open Go.Proofs.YthohahcpdgebbaaDoor.Th
set_option linter.unusedVariables false
set_option linter.unusedSimpArgs false
def kBools : Kd (List Bool) := Kd.slice 4 Kd.bool
theorem infoBools : (Tryd.prog.info? 118).map (fun i => (i.zero, i.size, i.bytes)) = some (some (.slice none 0 0), 1, 24) := by kernel_rfl
theorem bb_at {W : World} {base g n cap : Nat} {df : List (List Bool)} (h : Kd.S kBools 118 W base (fun _ => True) (.slice (some ⟨g, 0, none⟩) n cap) df) (i j : Nat) (hi : i < n) (hj : j < (df.getD i []).length) :
    ∃ b c, W.cell? ⟨g, i, none⟩ = some (.slice (some ⟨b, 0, none⟩) (df.getD i []).length c) ∧ W.cell? ⟨b, j, none⟩ = some (.bool (dfAt df i j)) ∧ W.frozen? ⟨b, j, none⟩ = false ∧ b < W.heap.size ∧ g < W.heap.size ∧ base ≤ b ∧ base ≤ g ∧ g ≠ b ∧
      ∀ v : Bool, Kd.S kBools 118 (W.setCell ⟨b, j, none⟩ (.bool v)) base (fun _ => True) (.slice (some ⟨g, 0, none⟩) n cap) (df.set i ((df.getD i []).set j v)) := by
  have hg1 : g < W.heap.size := Kd.S_lt h g (by simp [Value.ownBlock])
  have hg0 : base ≤ g := Kd.S_base h g (by simp [Value.ownBlock])
  obtain ⟨oki, c, hcl, hM, hcc, hoki, hput⟩ := Kd.S_borrow h [] (i : Int) (by omega) (by omega)
  rw [Int.toNat_natCast] at hM hput
  obtain ⟨v0, rfl, hR⟩ := hM
  obtain ⟨b, c0, rfl, hb0, hb1, _⟩ := Kd.R_form hR (by omega)
  have hc0 := hcc 0 _ rfl
  have e1 : (⟨g, 0, none⟩ : Addr).add ((i : Int).toNat * kBools.sz + 0) = ⟨g, i, none⟩ := by
    rw [Int.toNat_natCast, Addr.add_lit]
    congr 1
    show 0 + (i * 1 + 0) = i
    omega
  rw [e1] at hc0
  obtain ⟨y1, y2⟩ := Kd.R_celln false hR (j : Int) (by omega) (by omega)
  rw [Int.toNat_natCast] at y1 y2
  have ey : rdOf false (df.getD i []) (j : Int) = dfAt df i j := by unfold rdOf dfAt; rw [Int.toNat_natCast]
  rw [ey] at y1
  refine ⟨b, c0, hc0, y1, y2, hb1, hg1, hb0, hg0, fun he => (hoki b (hR.1 b (by simp [Value.ownBlock]))).2 (by rw [he]; simp [Value.ownBlock]), fun v => ?_⟩
  have hp := Kd.R_putg hR (j : Int) v
  rw [Int.toNat_natCast] at hp
  refine hput hp.2 (fun k hk => ?_) ⟨_, rfl, ?_⟩
  · injection hk with hk
    subst hk
    exact hR.1 b (by simp [Value.ownBlock])
  · exact hp.1
theorem bb_later {W : World} {base g n cap : Nat} {df : List (List Bool)} (h : Kd.S kBools 118 W base (fun _ => True) (.slice (some ⟨g, 0, none⟩) n cap) df) (i j : Nat) (hi : i < n) (hj : j < (df.getD i []).length) :
    ∃ b c, W.cell? ⟨g, i, none⟩ = some (.slice (some ⟨b, 0, none⟩) (df.getD i []).length c) ∧ W.cell? ⟨b, j, none⟩ = some (.bool (dfAt df i j)) ∧ W.frozen? ⟨b, j, none⟩ = false ∧ b < W.heap.size ∧ g < W.heap.size ∧ base ≤ b ∧ base ≤ g ∧ g ≠ b ∧
      ∀ W1 : World, Below W.heap.size W W1 → ∀ v : Bool, Kd.S kBools 118 (W1.setCell ⟨b, j, none⟩ (.bool v)) base (fun _ => True) (.slice (some ⟨g, 0, none⟩) n cap) (df.set i ((df.getD i []).set j v)) := by
  obtain ⟨b, c, x1, x2, x3, x4, x5, x6, x7, x8, _⟩ := bb_at h i j hi hj
  refine ⟨b, c, x1, x2, x3, x4, x5, x6, x7, x8, fun W1 hb v => ?_⟩
  obtain ⟨b', c', y1, _, _, _, _, _, _, _, y8⟩ := bb_at (Kd.S_below h hb) i j hi hj
  rw [hb.cell (p := ⟨g, i, none⟩) x5, x1] at y1
  have e : b = b' := by injection y1 with y1; injection y1 with y1; injection y1 with y1; injection y1
  subst e
  exact y8 v
theorem bb_new {W : World} {base g n cap : Nat} {df : List (List Bool)} (h : Kd.S kBools 118 W base (fun _ => True) (.slice (some ⟨g, 0, none⟩) n cap) df) (i : Nat) (hi : i < n) {W1 : World} (hb : Below W.heap.size W W1) {v1 : Value} {xs : List Bool}
    (hR1 : Kd.bool.R 4 W1 W.heap.size (fun _ => True) v1 xs) :
    (∃ u, W1.cell? ⟨g, i, none⟩ = some u) ∧ W1.frozen? ⟨g, i, none⟩ = false ∧ Kd.S kBools 118 (W1.setCell ⟨g, i, none⟩ v1) base (fun _ => True) (.slice (some ⟨g, 0, none⟩) n cap) (df.set i xs) ∧ base ≤ g ∧ g < W1.heap.size := by
  have hgs : g < W.heap.size := Kd.S_lt h g (by simp [Value.ownBlock])
  have hgb : base ≤ g := Kd.S_base h g (by simp [Value.ownBlock])
  have h0 : (0 : Int) ≤ (i : Int) := by omega
  have h1 : (i : Int) < (n : Int) := by omega
  obtain ⟨oki, c, hcl, hM, hcc, hfr, hoki, hH⟩ := Kd.S_elem h [] (i : Int) h0 h1
  obtain ⟨v, rfl, hR⟩ := hM
  have e1 : (i : Int).toNat * kBools.sz + 0 = i := by rw [Int.toNat_natCast]; show i * 1 + 0 = _; omega
  have hH1 := Kd.H_below (Kd.H_widen hH) hb
  obtain ⟨rows, _, hraw, _, _, hcc1, _⟩ := Kd.H_raw hH1 h0 h1
  obtain ⟨_, _, _, _, hfr1⟩ := Kd.R_elem hraw [] (i : Int) h0 h1
  have hf1 := hfr1 0
  have e2 : (i : Int).toNat * (Kd.raw kBools.sz).sz + 0 = i := e1
  rw [e2] at hf1
  have hd1 := hcc1 0 _ rfl
  rw [e1] at hd1
  obtain ⟨hs1, hg1⟩ := Kd.H_seg hH1 h0 h1 (seg := [v1]) (j := 0) (by show 0 + 1 ≤ 1; omega) (fun q hq => by
    rw [List.mem_singleton.1 hq]
    obtain ⟨A1, c1, rfl⟩ := Kd.R_slice hR1
    rfl)
  rw [e1] at hs1 hg1
  refine ⟨⟨_, hd1⟩, hf1, ?_, hgb, Nat.lt_of_lt_of_le hgs hb.size⟩
  have hM1 : kBools.M (W1.setCells g i [v1]) base (fun k => oki k ∨ True ∧ W.heap.size ≤ k) xs ([] ++ [v1] ++ []) :=
    ⟨v1, rfl, Kd.R_lower (Kd.R_mono (Kd.R_step (Kd.R_bound hR1) (fun k hk hlt => hg1.block k hlt (fun he => by
      injection he with he
      subst he
      have := hk.2.1
      omega))) (fun k hk => .inr ⟨trivial, hk.2.1⟩)) (Nat.le_trans hgb (Nat.le_of_lt hgs))⟩
  have hb2 := Kd.H_back hs1 hM1 (fun k hk => hk)
  rw [Int.toNat_natCast] at hb2
  exact hb2
structure InO (d : Dfa) (df : List (List Bool)) (i : Nat) : Prop where
  len : df.length = d.n + 1
  row : ∀ r, r < i → (df.getD r []).length = d.n + 1 ∧ ∀ c, c ≤ d.n → dfAt df r c = decide (d.lab r ≠ d.lab c)
structure InJ (d : Dfa) (df : List (List Bool)) (i j : Nat) : Prop where
  o : InO d df i
  rl : (df.getD i []).length = d.n + 1
  at_ : ∀ c, c < j → dfAt df i c = decide (d.lab i ≠ d.lab c)
theorem inO_start (d : Dfa) : InO d (List.replicate (d.n + 1) []) 0 := ⟨by simp, fun r hr => by omega⟩
theorem inJ_make {d : Dfa} {df : List (List Bool)} {i : Nat} (h : InO d df i) (hi : i ≤ d.n) : InJ d (df.set i (List.replicate (d.n + 1) false)) i 0 := by
  refine ⟨⟨by rw [List.length_set]; exact h.len, fun r hr => ?_⟩, ?_, fun c hc => by omega⟩
  · have e : (df.set i (List.replicate (d.n + 1) false)).getD r [] = df.getD r [] := by rw [getD_set, if_neg (by omega)]
    unfold dfAt
    rw [e]
    exact h.row r hr
  · rw [getD_set, if_pos ⟨rfl, by rw [h.len]; omega⟩, List.length_replicate]
theorem inJ_put {d : Dfa} {df : List (List Bool)} {i j : Nat} (h : InJ d df i j) (hi : i ≤ d.n) (hj : j ≤ d.n) : InJ d (df.set i ((df.getD i []).set j (decide (d.lab i ≠ d.lab j)))) i (j + 1) := by
  have hil : i < df.length := by rw [h.o.len]; omega
  refine ⟨⟨by rw [List.length_set]; exact h.o.len, fun r hr => ?_⟩, ?_, fun c hc => ?_⟩
  · have e : (df.set i ((df.getD i []).set j (decide (d.lab i ≠ d.lab j)))).getD r [] = df.getD r [] := by rw [getD_set, if_neg (by omega)]
    unfold dfAt
    rw [e]
    exact h.o.row r hr
  · rw [getD_set, if_pos ⟨rfl, hil⟩, List.length_set]
    exact h.rl
  · unfold dfAt
    rw [getD_set, if_pos ⟨rfl, hil⟩, getD_set]
    split
    · rename_i he
      rw [he.1]
    · rename_i he
      have hcj : c < j := by
        rcases Nat.lt_or_ge c j with h1 | h1
        · exact h1
        · exact absurd ⟨by omega, by rw [h.rl]; omega⟩ he
      exact h.at_ c hcj
theorem inJ_end {d : Dfa} {df : List (List Bool)} {i : Nat} (h : InJ d df i (d.n + 1)) : InO d df (i + 1) := by
  refine ⟨h.o.len, fun r hr => ?_⟩
  rcases Nat.lt_or_ge r i with h1 | h1
  · exact h.o.row r h1
  · obtain rfl : r = i := by omega
    exact ⟨h.rl, fun c hc => h.at_ c (by omega)⟩
theorem inO_end {d : Dfa} {df : List (List Bool)} (h : InO d df (d.n + 1)) : DInv d df := by
  refine ⟨h.len, fun i hi => (h.row i (by omega)).1, fun i j hi hj hd he => ?_, fun i j hi hj hl => ?_⟩
  · rw [(h.row i (by omega)).2 j hj] at hd
    exact (of_decide_eq_true hd) (he [] allC_nil)
  · rw [(h.row i (by omega)).2 j hj]
    exact decide_eq_true hl
structure OutI (d : Dfa) (df : List (List Bool)) (out : List Int) (i : Nat) : Prop where
  len : out.length = d.n + 1
  at_ : ∀ r, r < i → ∃ q : Nat, q ≤ r ∧ out[r]? = some (q : Int) ∧ (q < r → dfAt df r q = false) ∧ ∀ j : Nat, j < q → dfAt df r j = true
theorem outI_next {d : Dfa} {df : List (List Bool)} {out : List Int} {i q : Nat} (h : OutI d df out i) (hi : i ≤ d.n) (hq : q ≤ i) (h1 : q < i → dfAt df i q = false) (h2 : ∀ j : Nat, j < q → dfAt df i j = true) : OutI d df (out.set i (q : Int)) (i + 1) := by
  refine ⟨by rw [List.length_set]; exact h.len, fun r hr => ?_⟩
  rcases Nat.lt_or_ge r i with h3 | h3
  · obtain ⟨q', a, b, c⟩ := h.at_ r h3
    exact ⟨q', a, by rw [List.getElem?_set_ne (by omega)]; exact b, c⟩
  · obtain rfl : r = i := by omega
    exact ⟨q, hq, by rw [List.getElem?_set_self (by rw [h.len]; omega)], h1, h2⟩
theorem outI_end {d : Dfa} {df : List (List Bool)} {out : List Int} (h : OutI d df out (d.n + 1)) (hE : ∀ i j, i ≤ d.n → j ≤ d.n → (dfAt df i j = false ↔ Eqv d i d j)) : COut d out := by
  refine ⟨h.len, fun i hi => ?_⟩
  obtain ⟨q, a, b, c, e⟩ := h.at_ i (by omega)
  refine ⟨q, a, b, ?_, fun j hj he => ?_⟩
  · rcases Nat.lt_or_ge q i with h1 | h1
    · exact ((hE i q hi (by omega)).1 (c h1)).symm
    · obtain rfl : q = i := by omega
      exact Eqv.refl _ _
  · have h1 := (hE i j hi (by omega)).2 he.symm
    rw [e j hj] at h1
    cases h1
theorem box_keep {w wr w' : World} {cs : Array Value} {t : TypeId} (h : Below (w.heap.size + 1) (w.alloc (.cells cs t)) wr) (hb : Below wr.heap.size wr w') : Below (w.heap.size + 1) (w.alloc (.cells cs t)) w' := h.trans (hb.mono (by have := h.size; simp at this; omega))
set_option maxHeartbeats 8000000 in
set_option maxRecDepth 100000 in
theorem classesR_calls (d : Dfa) (hok : Ok d) (A1 : Option Addr) (c1 : Nat) (A2 : Option Addr) (c2 : Nat) (A3 : Option Addr) (c3 : Nat) (p : List Int) (w : World) (hd : RdD w d A1 c1 A2 c2) (hp : (Kd.int .i32).C w A3 p.length p) (hP : Pts d.arcs p) :
    Calls Tryd.prog 50 #[.agg #[.int .i64 d.start, .slice A1 d.arcs.length c1, .slice A2 d.labels.length c2], .slice A3 p.length c3] w fun e w' => ∃ v out, e = .returned v ∧ (Kd.int .i64).R 3 w' w.heap.size (fun _ => True) v out ∧ COut d out ∧ Below w.heap.size w w' := by
  obtain ⟨m1, m2⟩ := hd.max
  have mp : p.length ≤ 9223372036854775807 := hp.2.1
  have HD := Aside0.mk hd
  have HOK := Aside0.mk hok
  have HPP := Aside0.mk hp
  have HPT := Aside0.mk hP
  have n0 : 1 ≤ d.arcs.length := hok.pos
  have n1 : d.arcs.length ≤ 3000 := hok.lim
  clear hd hok hp hP
  go_enter Tryd.func50, Tryd.ntmps50
  have hrep : (List.replicate (d.arcs.length + 1) ([] : List Bool)).length = d.arcs.length + 1 := List.length_replicate
  have HREP := Aside0.mk hrep
  clear hrep
  go_wp2_with (refine Kd.S_make kBools (w0 := w.alloc (.cells #[.int .i64 d.start, .slice A1 d.arcs.length c1, .slice A2 d.labels.length c2] 28)) (w.heap.size + 1) 118 rfl rfl 121 _ _ rfl ((d.arcs.length : Int) + 1) rfl rfl Tryd.underlying121 (.slice none 0 0) 24 infoBools rfl (by decide) (by decide) [] (ok := fun _ => True) (okp := fun _ => False) ⟨_, rfl, Kd.R_nil _ _ _ _ _⟩ (fun _ _ => trivial) trivial (by omega) (by omega) (Below.refl _ _) (by simp) ?_; intro v1 w1 hS hB hg hat; rw [show ((d.arcs.length : Int) + 1).toNat = d.arcs.length + 1 by omega] at hS; obtain ⟨g, cap, rfl, hg0, hg1, hg2⟩ := Kd.S_form hS (by rw [HREP.out]; omega); rw [HREP.out] at hS; have HS := Aside0.mk hS; have HB := Aside0.mk hB; clear hg hat hg2 hS hB)
  go_loopw [7] (fun i wr => ∃ k : Nat, k ≤ d.arcs.length + 1 ∧ i = .int .i64 k ∧ Aside0 (∃ df, Kd.S kBools 118 wr (w.heap.size + 1) (fun _ => True) (.slice (some ⟨g, 0, none⟩) (d.arcs.length + 1) cap) df ∧ InO d df k) ∧ Aside0 (Below (w.heap.size + 1) (w.alloc (.cells #[.int .i64 d.start, .slice A1 d.arcs.length c1, .slice A2 d.labels.length c2] 28)) wr)) (fun i _ => d.arcs.length + 1 - (intOf i).toNat)
  case atStart => exact ⟨0, by omega, rfl, ⟨_, HS.out, inO_start d⟩, HB⟩
  case round =>
    obtain ⟨i, hi, rfl, HQ, HB⟩ := hrel
    obtain ⟨df, hS, hI⟩ := HQ.out
    have HS1 := Aside0.mk hS
    have HI1 := Aside0.mk hI
    have hwr : w.heap.size + 1 ≤ wr.heap.size := by have := HB.out.size; simp at this; omega
    clear hS hI HQ
    by_cases hlt : i ≤ d.arcs.length
    · have HIM := Aside0.mk (inJ_make HI1.out (i := i) hlt)
      have hrep : (List.replicate (d.arcs.length + 1) false).length = d.arcs.length + 1 := List.length_replicate
      have HREP2 := Aside0.mk hrep
      have hin : i < d.arcs.length + 1 := by omega
      clear hrep
      go_wp2_with (refine Kd.R_make Kd.bool (w0 := wr) wr.heap.size 4 rfl rfl 118 _ _ rfl ((d.arcs.length : Int) + 1) rfl rfl Tryd.underlying118 (.bool false) 1 infoBool rfl (by decide) (by decide) false (ok := fun _ => True) (okp := fun _ => False) rfl (fun _ _ => trivial) trivial (by omega) (by omega) (Below.refl _ _) (Nat.le_refl _) ?_; intro v2 w2 hR hB2 hg hat; rw [show ((d.arcs.length : Int) + 1).toNat = d.arcs.length + 1 by omega] at hR; obtain ⟨⟨u0, z0⟩, z1, hS2, _, hgs⟩ := bb_new HS1.out i hin hB2 hR; obtain ⟨A4, c4, rfl⟩ := Kd.R_slice hR; rw [HREP2.out] at hS2 ⊢; have HS2 := Aside0.mk hS2; have HB2 := Aside0.mk (box_keep HB.out hB2); clear hg hat hR hB2 hS2)
      go_loopw [8] (fun jv wr => ∃ k : Nat, k ≤ d.arcs.length + 1 ∧ jv = .int .i64 k ∧ Aside0 (∃ df, Kd.S kBools 118 wr (w.heap.size + 1) (fun _ => True) (.slice (some ⟨g, 0, none⟩) (d.arcs.length + 1) cap) df ∧ InJ d df i k) ∧ Aside0 (Below (w.heap.size + 1) (w.alloc (.cells #[.int .i64 d.start, .slice A1 d.arcs.length c1, .slice A2 d.labels.length c2] 28)) wr)) (fun jv _ => d.arcs.length + 1 - (intOf jv).toNat)
      case atStart => exact ⟨0, by omega, rfl, ⟨_, HS2.out, HIM.out⟩, ⟨HB2.out.setCell (p := ⟨g, i, none⟩) hg0 _⟩⟩
      case round =>
        obtain ⟨j, hj, rfl, HQ, HB⟩ := hrel
        obtain ⟨df, hS, hI⟩ := HQ.out
        have HS1 := Aside0.mk hS
        have HI1 := Aside0.mk hI
        have hwr : w.heap.size + 1 ≤ wr.heap.size := by have := HB.out.size; simp at this; omega
        clear hS hI HQ
        by_cases hjl : j ≤ d.arcs.length
        · have HIP := Aside0.mk (inJ_put HI1.out (j := j) hlt hjl)
          have hrl : (df.getD i []).length = d.arcs.length + 1 := HI1.out.rl
          have hbd : Below wr.heap.size wr wr.drew := below_drew (Below.refl _ _)
          have HBD := Aside0.mk (box_keep HB.out hbd)
          obtain ⟨b, c, y0, y1, y2, hb1, hgs, hbb, _, hgb, hput⟩ := bb_later (Kd.S_below HS1.out hbd) i j hin (by rw [hrl]; omega)
          rw [hrl] at y0
          obtain ⟨hbox, hbel, hwz⟩ := box_later HBD.out
          have x0 := hbox 0 _ rfl
          have x1 := hbox 1 _ rfl
          have x2 := hbox 2 _ rfl
          simp only [List.getElem_toArray, List.getElem_cons_zero, List.getElem_cons_succ] at x0 x1 x2
          have HDW := Aside0.mk (HD.out.below hbel)
          have HPUT := Aside0.mk hput
          have z0 : Below wr.drew.heap.size wr.drew wr.drew := Below.refl _ _
          have hij : (i : Int) < (d.arcs.length : Int) + 1 := by omega
          have hjj : (j : Int) < (d.arcs.length : Int) + 1 := by omega
          obtain ⟨bv, hbv⟩ : ∃ bv, bv = dfAt df i j := ⟨_, rfl⟩
          rw [← hbv] at y1
          obtain ⟨li, hli⟩ : ∃ li, li = d.lab (i : Int) := ⟨_, rfl⟩
          obtain ⟨lj, hlj⟩ : ∃ lj, lj = d.lab (j : Int) := ⟨_, rfl⟩
          have HLI := Aside0.mk hli
          have HLJ := Aside0.mk hlj
          have hbb' : w.heap.size + 1 ≤ b := hbb
          have hbx : w.heap.size ≠ b := by omega
          have hbg : g ≠ b := hgb
          clear hbd hput hbox hbel hbv hli hlj hrl
          go_wp2_with fail
          go_region_held3 (fun w' => Below (w.heap.size + 1) wr.drew w' ∧ (w'.cell? ⟨w.heap.size, 0, none⟩ = some (.int .i64 d.start) ∧ w'.cell? ⟨w.heap.size, 1, none⟩ = some (.slice A1 d.arcs.length c1) ∧ w'.cell? ⟨w.heap.size, 2, none⟩ = some (.slice A2 d.labels.length c2)) ∧ w'.cell? ⟨g, i, none⟩ = some (.slice (some ⟨b, 0, none⟩) (d.arcs.length + 1) c))
            (first | exact ⟨z0.mono hwr, ⟨x0, x1, x2⟩, y0⟩ | exact ⟨(z0.mono hwr).setCell (p := ⟨b, j, none⟩) hbb' _, ⟨(cell_far hbx _).trans x0, (cell_far hbx _).trans x1, (cell_far hbx _).trans x2⟩, (cell_far hbg _).trans y0⟩)
            (first
              | (go_at_call_of 81 (Value.int .i64 (j : Int)); refine (labelR_calls d HOK.out A1 c1 A2 c2 j _ (HDW.out.below z0) hjl).mono ?_; rintro e wq ⟨rfl, hbq⟩; rw [← HLJ.out]; have x0 := cell_later hbq x0; have x1 := cell_later hbq x1; have x2 := cell_later hbq x2; have y0 := cell_later hbq y0; have y2 := (hbq.frozen (World.block_lt_of_cell? _ _ y1)).trans y2; have y1 := cell_later hbq y1; have z0 := below_next z0 hbq)
              | (go_at_call_of 81 (Value.int .i64 (i : Int)); refine (labelR_calls d HOK.out A1 c1 A2 c2 i _ (HDW.out.below z0) hlt).mono ?_; rintro e wq ⟨rfl, hbq⟩; rw [← HLI.out]; have x0 := cell_later hbq x0; have x1 := cell_later hbq x1; have x2 := cell_later hbq x2; have y0 := cell_later hbq y0; have y2 := (hbq.frozen (World.block_lt_of_cell? _ _ y1)).trans y2; have y1 := cell_later hbq y1; have z0 := below_next z0 hbq))
          all_goals
            go_wp2
            go_roundw
            case rel =>
              refine ⟨j + 1, by omega, by go_num, ⟨_, HPUT.out _ z0 (li != lj), ?_⟩, ⟨(box_keep HBD.out z0).setCell (p := ⟨b, j, none⟩) hbb' _⟩⟩
              have h := HIP.out
              rw [← HLI.out, ← HLJ.out, show decide (li ≠ lj) = (li != lj) by by_cases h : li = lj <;> simp [h]] at h
              exact h
            case measure => simp [intOf]; omega
        · obtain rfl : j = d.arcs.length + 1 := by omega
          have HIE := Aside0.mk (inJ_end HI1.out)
          go_wp2
          go_roundw
          case rel => exact ⟨i + 1, by omega, by go_num, ⟨_, HS1.out, HIE.out⟩, HB⟩
          case measure => simp [intOf]; omega
    · obtain rfl : i = d.arcs.length + 1 := by omega
      have HDV := Aside0.mk (inO_end HI1.out)
      go_wp2
      go_loopg [9] (2 * falses df + 1) (fun gk mv wr => ∃ more : Bool, mv = .bool more ∧ Aside0 (∃ df, Kd.S kBools 118 wr (w.heap.size + 1) (fun _ => True) (.slice (some ⟨g, 0, none⟩) (d.arcs.length + 1) cap) df ∧ DInv d df ∧ 2 * falses df + (if more = true then 1 else 0) ≤ gk ∧ (more = false → ∀ i j, i ≤ d.n → j ≤ d.n → (dfAt df i j = false ↔ Eqv d i d j))) ∧ Aside0 (Below (w.heap.size + 1) (w.alloc (.cells #[.int .i64 d.start, .slice A1 d.arcs.length c1, .slice A2 d.labels.length c2] 28)) wr))
      case atStart => exact ⟨true, rfl, ⟨df, HS1.out, HDV.out, by simp, fun h => (by cases h)⟩, HB⟩
      case round =>
        obtain ⟨more, rfl, HQ, HB⟩ := hrel
        obtain ⟨df, hS, hI, hg, hE⟩ := HQ.out
        have HS1 := Aside0.mk hS
        clear hS HQ
        cases more
        · have HE := Aside0.mk (hE rfl)
          have hwr : w.heap.size + 1 ≤ wr.heap.size := by have := HB.out.size; simp at this; omega
          have hrow := fun i hi => hI.lens i hi
          have HROW := Aside0.mk hrow
          obtain ⟨wb, rfl⟩ : ∃ wb : World, wb = wr := ⟨_, rfl⟩
          clear hI hg hE hrow
          go_wp2_with (refine Kd.R_make (Kd.int .i64) (w0 := wb) wb.heap.size 3 rfl rfl 26 _ _ rfl ((d.arcs.length : Int) + 1) rfl rfl Tryd.underlying26 (.int .i64 0) 8 infoInt rfl (by decide) (by decide) 0 (ok := fun _ => True) (okp := fun _ => False) rfl (fun _ _ => trivial) trivial (by omega) (by omega) (Below.refl _ _) (Nat.le_refl _) ?_; intro v2 w2 hR hB2 hg hat; rw [show ((d.arcs.length : Int) + 1).toNat = d.arcs.length + 1 by omega] at hR; have hrl : (List.replicate (d.arcs.length + 1) (0 : Int)).length = d.arcs.length + 1 := List.length_replicate; obtain ⟨go, co, rfl, hgo0, hgo1, _⟩ := Kd.R_form hR (by rw [hrl]; omega); rw [hrl] at hR ⊢; have HR := Aside0.mk hR; have HB2 := Aside0.mk hB2; clear hg hat hR hB2 hrl)
          go_loopw [14] (fun iv wr => ∃ k : Nat, k ≤ d.arcs.length + 1 ∧ iv = .int .i64 k ∧ Aside0 (∃ out, (Kd.int .i64).R 3 wr wb.heap.size (fun _ => True) (.slice (some ⟨go, 0, none⟩) (d.arcs.length + 1) co) out ∧ OutI d df out k) ∧ Aside0 (Below wb.heap.size wb wr)) (fun iv _ => d.arcs.length + 1 - (intOf iv).toNat)
          case atStart => exact ⟨0, by omega, rfl, ⟨_, HR.out, by simp [Dfa.n], fun r hr => by omega⟩, HB2⟩
          case round =>
            obtain ⟨i, hi, rfl, HQ, HB3⟩ := hrel
            obtain ⟨out, hR, hO⟩ := HQ.out
            by_cases hlt : i ≤ d.arcs.length
            · obtain ⟨y1, y2⟩ := Kd.R_celln 0 hR (i : Int) (by omega) (by omega)
              rw [Int.toNat_natCast] at y1 y2
              have hput := fun x => (Kd.R_putg hR (i : Int) x).1
              simp only [Int.toNat_natCast] at hput
              have HPUT := Aside0.mk hput
              have HO := Aside0.mk hO
              have hii : (i : Int) < (d.arcs.length : Int) + 1 := by omega
              obtain ⟨wi, rfl⟩ : ∃ wi : World, wi = wr := ⟨_, rfl⟩
              clear hR hO HQ hput
              go_wp2
              go_loopw [15] (fun jv wr => ∃ k : Nat, k ≤ i ∧ jv = .int .i64 k ∧ wr = wi.setCell ⟨go, i, none⟩ (.int .i64 i) ∧ Aside0 (∀ j : Nat, j < k → dfAt df i j = true)) (fun jv _ => i - (intOf jv).toNat)
              case atStart => exact ⟨0, by omega, rfl, rfl, ⟨fun j hj => by omega⟩⟩
              case round =>
                obtain ⟨j, hj, rfl, hw, HJ⟩ := hrel
                have hbw : Below wb.heap.size wb wr := by rw [hw]; exact HB3.out.setCell (p := ⟨go, i, none⟩) hgo0 _
                have HBW := Aside0.mk hbw
                have HW := Aside0.mk hw
                by_cases hji : j < i
                · obtain ⟨b, c, u0, u1, u2, hb1, hgs, hbb, _, _, _⟩ := bb_at (Kd.S_below HS1.out hbw) i j (by omega) (by rw [HROW.out i hlt]; show j < d.arcs.length + 1; omega)
                  have hrl : (df.getD i []).length = d.arcs.length + 1 := HROW.out i hlt
                  rw [hrl] at u0
                  have hjj : (j : Int) < (d.arcs.length : Int) + 1 := by omega
                  clear hw hbw hrl
                  cases hdf : dfAt df i j with
                  | true =>
                    rw [hdf] at u1
                    have HN := Aside0.mk (show ∀ j' : Nat, j' < j + 1 → dfAt df i j' = true from fun j' h => by
                      rcases Nat.lt_or_ge j' j with h1 | h1
                      · exact HJ.out j' h1
                      · obtain rfl : j' = j := by omega
                        exact hdf)
                    clear hdf
                    go_wp2
                    go_roundw
                    case rel => exact ⟨j + 1, by omega, by go_num, HW.out, HN⟩
                    case measure => simp [intOf]; omega
                  | false =>
                    rw [hdf] at u1
                    have HN := Aside0.mk (outI_next HO.out (i := i) (q := j) hlt (by omega) (fun _ => hdf) HJ.out)
                    have hR1 := HPUT.out (i : Int)
                    rw [← HW.out] at hR1
                    obtain ⟨z1, z2⟩ := Kd.R_celln 0 hR1 (i : Int) (by omega) (by omega)
                    rw [Int.toNat_natCast] at z1 z2
                    have hR2 := (Kd.R_putg hR1 (i : Int) (j : Int)).1
                    rw [Int.toNat_natCast, List.set_set] at hR2
                    have HR2 := Aside0.mk hR2
                    clear hdf hR1 hR2
                    go_wp2
                    go_roundw
                    case rel => exact ⟨i + 1, by omega, by go_num, ⟨_, HR2.out, HN.out⟩, ⟨HBW.out.setCell (p := ⟨go, i, none⟩) hgo0 _⟩⟩
                    case measure => simp [intOf]; omega
                · obtain rfl : j = i := by omega
                  have HN := Aside0.mk (outI_next HO.out (i := j) (q := j) hlt (by omega) (fun h => by omega) HJ.out)
                  have hR1 := HPUT.out (j : Int)
                  rw [← HW.out] at hR1
                  have HR1 := Aside0.mk hR1
                  clear hw hbw hR1
                  go_wp2
                  go_roundw
                  case rel => exact ⟨j + 1, by omega, by go_num, ⟨_, HR1.out, HN.out⟩, HBW⟩
                  case measure => simp [intOf]; omega
            · obtain rfl : i = d.arcs.length + 1 := by omega
              have HF := Aside0.mk (outI_end hO HE.out)
              have HRO := Aside0.mk hR
              clear hR hO HQ
              go_wp2
              go_ret
              exact ⟨_, out, rfl, Kd.R_lower HRO.out (by omega), HF.out, (below_alloc (Below.refl _ _) _).trans ((HB.out.trans (HB3.out.mono hwr)).mono (by simp))⟩
        · have HR0 := Aside0.mk (rndI_start (p := p) hI)
          simp only [if_true] at hg
          have hgf : 2 * falses df + 1 ≤ gk := hg
          obtain ⟨F, hF⟩ : ∃ F, F = falses df := ⟨_, rfl⟩
          rw [← hF] at HR0 hgf
          clear hI hg hE hF
          go_wp2
          go_loopw [9, 10] (fun mv iv wr => ∃ (more : Bool) (k : Nat), k ≤ d.arcs.length + 1 ∧ mv = .bool more ∧ iv = .int .i64 k ∧ Aside0 (∃ df, Kd.S kBools 118 wr (w.heap.size + 1) (fun _ => True) (.slice (some ⟨g, 0, none⟩) (d.arcs.length + 1) cap) df ∧ RndI d p F df more k 0) ∧ Aside0 (Below (w.heap.size + 1) (w.alloc (.cells #[.int .i64 d.start, .slice A1 d.arcs.length c1, .slice A2 d.labels.length c2] 28)) wr)) (fun _ iv _ => d.arcs.length + 1 - (intOf iv).toNat)
          case atStart => exact ⟨false, 0, by omega, rfl, rfl, ⟨df, HS1.out, HR0.out⟩, HB⟩
          case round =>
            obtain ⟨more, i, hi, rfl, rfl, HQ, HB⟩ := hrel
            by_cases hlt : i ≤ d.arcs.length
            · go_wp2
              go_loopw [9, 11] (fun mv iv wr => ∃ (more : Bool) (k : Nat), k ≤ d.arcs.length + 1 ∧ mv = .bool more ∧ iv = .int .i64 k ∧ Aside0 (∃ df, Kd.S kBools 118 wr (w.heap.size + 1) (fun _ => True) (.slice (some ⟨g, 0, none⟩) (d.arcs.length + 1) cap) df ∧ RndI d p F df more i k) ∧ Aside0 (Below (w.heap.size + 1) (w.alloc (.cells #[.int .i64 d.start, .slice A1 d.arcs.length c1, .slice A2 d.labels.length c2] 28)) wr)) (fun _ iv _ => d.arcs.length + 1 - (intOf iv).toNat)
              case atStart => exact ⟨more, 0, by omega, rfl, rfl, HQ, HB⟩
              case round =>
                obtain ⟨more, j, hj, rfl, rfl, HQ, HB⟩ := hrel
                by_cases hjl : j ≤ d.arcs.length
                · go_wp2
                  go_loopw [9, 12] (fun mv iv wr => ∃ (more : Bool) (k : Nat), k ≤ p.length ∧ Aside0 (mv = .bool more) ∧ iv = .int .i64 k ∧ Aside0 (∃ df, Kd.S kBools 118 wr (w.heap.size + 1) (fun _ => True) (.slice (some ⟨g, 0, none⟩) (d.arcs.length + 1) cap) df ∧ RndI d p F df more i j ∧ (dfAt df i j = false → ∀ x ∈ p.take k, dfAt df (nxt d i x) (nxt d j x) = false)) ∧ Aside0 (Below (w.heap.size + 1) (w.alloc (.cells #[.int .i64 d.start, .slice A1 d.arcs.length c1, .slice A2 d.labels.length c2] 28)) wr)) (fun _ iv _ => p.length - (intOf iv).toNat)
                  case atStart =>
                    refine ⟨more, 0, by omega, ⟨rfl⟩, rfl, ?_, HB⟩
                    obtain ⟨df, h1, h2⟩ := HQ.out
                    exact ⟨df, h1, h2, fun _ x hx => by simp at hx⟩
                  case round =>
                    obtain ⟨more, k, hk, HMV, rfl, HQ, HB⟩ := hrel
                    obtain ⟨hmv⟩ := HMV
                    subst hmv
                    obtain ⟨df, hS, hR, hK⟩ := HQ.out
                    have HS1 := Aside0.mk hS
                    have HR1 := Aside0.mk hR
                    have HK1 := Aside0.mk hK
                    have hrl : (df.getD i []).length = d.arcs.length + 1 := hR.inv.lens i hlt
                    have hrn : (df.getD (d.arcs.length + 0) []).length = d.arcs.length + 1 := hR.inv.lens d.arcs.length (Nat.le_refl _)
                    have hwr : w.heap.size + 1 ≤ wr.heap.size := by have := HB.out.size; simp at this; omega
                    have hii : (i : Int) < (d.arcs.length : Int) + 1 := by omega
                    have hjj : (j : Int) < (d.arcs.length : Int) + 1 := by omega
                    clear hS hR hK HQ
                    by_cases hkl : k < p.length
                    · have hkb : decide ((k : Int) < (p.length : Int)) = true := decide_eq_true (by omega)
                      obtain ⟨b, c, u0, u1, u2, hb1, hgs, hbb, _, _, hput⟩ := bb_later HS1.out i j (by omega) (by rw [hrl]; omega)
                      rw [hrl] at u0
                      have HPUT := Aside0.mk hput
                      clear hput
                      cases hdf : dfAt df i j with
                      | true =>
                        rw [hdf] at u1
                        have HN := Aside0.mk (rndI_next HR1.out (fun _ hf => by rw [hdf] at hf; cases hf))
                        clear hdf
                        go_wp2
                        go_roundw
                        case rel => exact ⟨more, j + 1, by omega, rfl, by go_num, ⟨df, HS1.out, HN.out⟩, HB⟩
                        case measure => simp [intOf]; omega
                      | false =>
                        rw [hdf] at u1
                        have HDF := Aside0.mk hdf
                        clear hdf
                        have hbd : Below wr.heap.size wr wr.drew := below_drew (Below.refl _ _)
                        have HBD := Aside0.mk (box_keep HB.out hbd)
                        obtain ⟨hbox, hbel, hwz⟩ := box_later HBD.out
                        have x0 := hbox 0 _ rfl
                        have x1 := hbox 1 _ rfl
                        have x2 := hbox 2 _ rfl
                        simp only [List.getElem_toArray, List.getElem_cons_zero, List.getElem_cons_succ] at x0 x1 x2
                        have HDW := Aside0.mk (HD.out.below hbel)
                        obtain ⟨q2, o2, e, hq2, hp2⟩ := at_num (Kd.C_below HPP.out hbel) k hkl
                        cases e
                        have hxm : p.getD k 0 ∈ p := getD_in 0 hkl
                        have htk := take_next (0 : Int) hkl
                        obtain ⟨x, hx⟩ : ∃ x, x = p.getD k 0 := ⟨_, rfl⟩
                        rw [← hx] at hp2 hxm htk
                        have hxC := HPT.out.isC x hxm
                        have HXC := Aside0.mk hxC
                        have HTK := Aside0.mk htk
                        have hna := nxt_le HOK.out i x
                        have hnb := nxt_le HOK.out j x
                        obtain ⟨na, hnae⟩ : ∃ na, na = nxt d i x := ⟨_, rfl⟩
                        obtain ⟨nb, hnbe⟩ : ∃ nb, nb = nxt d j x := ⟨_, rfl⟩
                        rw [← hnae] at hna
                        rw [← hnbe] at hnb
                        have HNA := Aside0.mk hnae
                        have HNB := Aside0.mk hnbe
                        have hna' : na ≤ d.arcs.length := hna
                        have hnb' : nb ≤ d.arcs.length := hnb
                        have hral : (df.getD na []).length = d.arcs.length + 1 := HR1.out.inv.lens na hna
                        obtain ⟨b2, cc2, y0, y1, _, hb2, _, _, _, _, _⟩ := bb_later (Kd.S_below HS1.out hbd) na nb (by omega) (by rw [hral]; omega)
                        rw [hral] at y0
                        have z0 : Below wr.drew.heap.size wr.drew wr.drew := Below.refl _ _
                        have hnai : (na : Int) < (d.arcs.length : Int) + 1 := by omega
                        have hnbi : (nb : Int) < (d.arcs.length : Int) + 1 := by omega
                        have hnai0 : (0 : Int) ≤ (na : Int) := by omega
                        have hnbi0 : (0 : Int) ≤ (nb : Int) := by omega
                        have hki : (k : Int) < (p.length : Int) := by omega
                        have hlt2 : i ≤ d.n := hlt
                        have hjl2 : j ≤ d.n := hjl
                        have u0' := cell_later hbd u0
                        have u1' := cell_later hbd u1
                        have u2' := (hbd.frozen (p := ⟨b, j, none⟩) hb1).trans u2
                        clear hbox hbel hx hxm htk hxC hnae hnbe hral hna hnb hrl hrn
                        cases hab : dfAt df na nb with
                        | true =>
                          rw [hab] at y1
                          have HN := Aside0.mk (rndI_set HR1.out HOK.out hlt2 hjl2 HXC.out HDF.out (by rw [← HNA.out, ← HNB.out]; exact hab))
                          have HAT := Aside0.mk (dfAt_set HR1.out.inv.len HR1.out.inv.lens hlt2 hjl2 i j)
                          clear hab hbd
                          go_wp2_with fail
                          go_region_held3 (fun w' => Below wr.drew.heap.size wr.drew w' ∧ (w'.cell? ⟨w.heap.size, 0, none⟩ = some (.int .i64 d.start) ∧ w'.cell? ⟨w.heap.size, 1, none⟩ = some (.slice A1 d.arcs.length c1) ∧ w'.cell? ⟨w.heap.size, 2, none⟩ = some (.slice A2 d.labels.length c2)) ∧ (w'.cell? ⟨q2, o2 + k, none⟩ = some (.int .i32 x) ∧ w'.cell? ⟨g, na, none⟩ = some (.slice (some ⟨b2, 0, none⟩) (d.arcs.length + 1) cc2) ∧ w'.cell? ⟨b2, nb, none⟩ = some (.bool true)) ∧ (w'.cell? ⟨g, i, none⟩ = some (.slice (some ⟨b, 0, none⟩) (d.arcs.length + 1) c) ∧ w'.cell? ⟨b, j, none⟩ = some (.bool false) ∧ w'.frozen? ⟨b, j, none⟩ = false))
                            (first | exact ⟨z0, ⟨x0, x1, x2⟩, ⟨hp2, y0, y1⟩, u0', u1', u2'⟩)
                            (first
                              | (go_at_call_of 82 (Value.int .i64 (i : Int)); refine (nextR_calls d HOK.out A1 c1 A2 c2 i x _ (HDW.out.below z0) hlt2).mono ?_; rintro e wq ⟨rfl, hbq⟩; rw [← HNA.out]; have x0 := cell_later hbq x0; have x1 := cell_later hbq x1; have x2 := cell_later hbq x2; have y0 := cell_later hbq y0; have y1 := cell_later hbq y1; have hp2 := cell_later hbq hp2; have u0' := cell_later hbq u0'; have u2' := (hbq.frozen (World.block_lt_of_cell? _ _ u1')).trans u2'; have u1' := cell_later hbq u1'; have z0 := below_next z0 hbq)
                              | (go_at_call_of 82 (Value.int .i64 (j : Int)); refine (nextR_calls d HOK.out A1 c1 A2 c2 j x _ (HDW.out.below z0) hjl2).mono ?_; rintro e wq ⟨rfl, hbq⟩; rw [← HNB.out]; have x0 := cell_later hbq x0; have x1 := cell_later hbq x1; have x2 := cell_later hbq x2; have y0 := cell_later hbq y0; have y1 := cell_later hbq y1; have hp2 := cell_later hbq hp2; have u0' := cell_later hbq u0'; have u2' := (hbq.frozen (World.block_lt_of_cell? _ _ u1')).trans u2'; have u1' := cell_later hbq u1'; have z0 := below_next z0 hbq))
                          all_goals
                            go_wp2
                            go_roundw
                            case rel =>
                              repeat apply Exists.intro
                              refine and_comm.1 ⟨rfl, ?_⟩
                              refine ⟨true, k + 1, by omega, ⟨rfl⟩, by go_num, ⟨_, HPUT.out _ (below_next (below_drew (Below.refl _ _)) z0) true, HN.out, fun hf => ?_⟩, ⟨(box_keep HBD.out z0).setCell (p := ⟨b, j, none⟩) hbb _⟩⟩
                              have h := HAT.out
                              unfold dfSet at h
                              simp only [and_self, if_true] at h
                              exact absurd (h.symm.trans hf) (by simp)
                            case measure => simp [intOf]; omega
                        | false =>
                          rw [hab] at y1
                          have HN := Aside0.mk (show dfAt df i j = false → ∀ x ∈ p.take (k + 1), dfAt df (nxt d i x) (nxt d j x) = false from fun hf y hy => by
                            rw [HTK.out] at hy
                            rcases List.mem_append.1 hy with hy | hy
                            · exact HK1.out hf y hy
                            · rw [List.mem_singleton.1 hy, ← HNA.out, ← HNB.out]
                              exact hab)
                          clear hab hbd
                          go_wp2_with fail
                          go_region_held3 (fun w' => Below wr.drew.heap.size wr.drew w' ∧ (w'.cell? ⟨w.heap.size, 0, none⟩ = some (.int .i64 d.start) ∧ w'.cell? ⟨w.heap.size, 1, none⟩ = some (.slice A1 d.arcs.length c1) ∧ w'.cell? ⟨w.heap.size, 2, none⟩ = some (.slice A2 d.labels.length c2)) ∧ (w'.cell? ⟨q2, o2 + k, none⟩ = some (.int .i32 x) ∧ w'.cell? ⟨g, na, none⟩ = some (.slice (some ⟨b2, 0, none⟩) (d.arcs.length + 1) cc2) ∧ w'.cell? ⟨b2, nb, none⟩ = some (.bool false)))
                            (first | exact ⟨z0, ⟨x0, x1, x2⟩, hp2, y0, y1⟩)
                            (first
                              | (go_at_call_of 82 (Value.int .i64 (i : Int)); refine (nextR_calls d HOK.out A1 c1 A2 c2 i x _ (HDW.out.below z0) hlt2).mono ?_; rintro e wq ⟨rfl, hbq⟩; rw [← HNA.out]; have x0 := cell_later hbq x0; have x1 := cell_later hbq x1; have x2 := cell_later hbq x2; have y0 := cell_later hbq y0; have y1 := cell_later hbq y1; have hp2 := cell_later hbq hp2; have z0 := below_next z0 hbq)
                              | (go_at_call_of 82 (Value.int .i64 (j : Int)); refine (nextR_calls d HOK.out A1 c1 A2 c2 j x _ (HDW.out.below z0) hjl2).mono ?_; rintro e wq ⟨rfl, hbq⟩; rw [← HNB.out]; have x0 := cell_later hbq x0; have x1 := cell_later hbq x1; have x2 := cell_later hbq x2; have y0 := cell_later hbq y0; have y1 := cell_later hbq y1; have hp2 := cell_later hbq hp2; have z0 := below_next z0 hbq))
                          all_goals
                            go_wp2
                            go_roundw
                            case rel =>
                              repeat apply Exists.intro
                              refine and_comm.1 ⟨rfl, ?_⟩
                              exact ⟨more, k + 1, by omega, ⟨rfl⟩, by go_num, ⟨_, Kd.S_below HS1.out (below_next (below_drew (Below.refl _ _)) z0), HR1.out, HN.out⟩, ⟨box_keep HBD.out z0⟩⟩
                            case measure => simp [intOf]; omega
                    · obtain rfl : k = p.length := by omega
                      have hkb : decide ((p.length : Int) < (p.length : Int)) = false := decide_eq_false (by omega)
                      have HN := Aside0.mk (rndI_next HR1.out (fun _ hf x hx => by
                        have h := HK1.out hf
                        rw [List.take_length] at h
                        exact h x hx))
                      clear hrl hrn
                      go_wp2
                      go_roundw
                      case rel => exact ⟨more, j + 1, by omega, rfl, by go_num, ⟨df, HS1.out, HN.out⟩, HB⟩
                      case measure => simp [intOf]; omega
                · obtain rfl : j = d.arcs.length + 1 := by omega
                  have HN := Aside0.mk (show ∃ df, Kd.S kBools 118 wr (w.heap.size + 1) (fun _ => True) (.slice (some ⟨g, 0, none⟩) (d.arcs.length + 1) cap) df ∧ RndI d p F df more (i + 1) 0 from by
                    obtain ⟨df, h1, h2⟩ := HQ.out
                    exact ⟨df, h1, rndI_row h2⟩)
                  go_wp2
                  go_roundw
                  case rel => exact ⟨more, i + 1, by omega, rfl, by go_num, HN, HB⟩
                  case measure => simp [intOf]; omega
            · obtain rfl : i = d.arcs.length + 1 := by omega
              obtain ⟨df, hS, hR⟩ := HQ.out
              have HS2 := Aside0.mk hS
              have HR2 := Aside0.mk hR
              clear hS hR HQ
              cases more
              · have HE := Aside0.mk (rndI_end HR2.out HOK.out HPT.out)
                have hF := (HR2.out.none_ rfl).1
                go_wp2
                go_roundg (2 * falses df)
                case measure => omega
                case rel => exact ⟨false, rfl, ⟨df, HS2.out, HR2.out.inv, by simp, fun _ => HE.out⟩, HB⟩
              · have hF := HR2.out.some_ rfl
                go_wp2
                go_roundg (2 * falses df + 1)
                case measure => omega
                case rel => exact ⟨true, rfl, ⟨df, HS2.out, HR2.out.inv, by simp, fun h => (by cases h)⟩, HB⟩
end Go.Proofs.YthohahcpdgebbaaDoor.Wk
namespace Go.Proofs.YthohahcpdgebbaaDoor.Wk
open Go.RowKit Go.Proofs.YthohahcpdgebbaaDoorW.PrintWords Go.Proofs.YthohahcpdgebbaaDoorW.PrintLast Go.Proofs.YthohahcpdgebbaaDoorW.PrintMore
open Go.Proofs.YthohahcpdgebbaaDoor.Th
set_option linter.unusedVariables false
set_option linter.unusedSimpArgs false
theorem arc_own {e : Nat} {W : World} {base : Nat} {ok : Nat → Prop} {v : Value} {xs : List Arc} (h : kArc.R e W base ok v xs) : W.ownsRow base e 3 v xs.length (xs.flatMap arcCells) := by
  obtain ⟨h0, inner, ho, hr⟩ := h
  rw [(reps_flat arcCells 3 (fun _ => rfl) (kArc_flat _ _ _) _ _).1 hr] at ho
  exact ho
theorem arc_R {e : Nat} {W : World} {base : Nat} {ok : Nat → Prop} {v : Value} {xs : List Arc} (h : W.ownsRow base e 3 v xs.length (xs.flatMap arcCells)) (hok : ∀ k, v.ownBlock = some k → ok k) : kArc.R e W base ok v xs :=
  ⟨hok, _, h, (reps_flat arcCells 3 (fun _ => rfl) (kArc_flat _ _ _) _ _).2 rfl⟩
set_option maxHeartbeats 4000000 in
set_option maxRecDepth 100000 in
theorem merged_calls (rows : List (List Arc)) (m : Int) (A1 : Option Addr) (c1 : Nat) (A2 : Option Addr) (c2 : Nat) (p tos : List Int) (w : World) (hp : (Kd.int .i32).C w A1 p.length p) (ht : (Kd.int .i64).C w A2 p.length tos) (hP : Pts rows p) (hl : tos.length = p.length) (hm : ∀ t ∈ tos, t < m) (hmax : p.length ≤ 4294967296) :
    Calls Tryd.prog 38 #[.slice A1 p.length c1, .slice A2 p.length c2] w fun e w' => ∃ v row, e = .returned v ∧ kArc.R 54 w' w.heap.size (fun _ => True) v row ∧ RwI m p tos p.length row ∧ Below w.heap.size w w' := by
  have HP := Aside0.mk hp
  have HT := Aside0.mk ht
  have HPT := Aside0.mk hP
  have HL := Aside0.mk hl
  have HM := Aside0.mk hm
  clear hp ht hP hl hm
  go_enter Tryd.func38, Tryd.ntmps38
  go_wp2_with (refine Kd.R_lit kArc (w0 := w) w.heap.size 54 ?hg (N := 9) ?hd (xs := ([] : List Arc)) (inner := []) (ok := fun _ => True) (okp := fun _ => True) ?hr ?hp (fun _ hk => hk) trivial (Below.refl _ _) (Nat.le_refl _) (by simp) ?_; (case hd => rfl); (case hg => rfl); (case hr => first | (go_simp; done) | (go_simp; rfl)); (case hp => exact (Reps.none _ _)); intro v1 w1 hR hB hg hnew; have HR := Aside0.mk hR; have HB := Aside0.mk hB; clear hg hnew hR hB)
  go_loopw [5, 6] (fun v iv wr => ∃ k : Nat, k ≤ p.length ∧ iv = .int .i64 k ∧ Aside0 (∃ out, kArc.R 54 wr w.heap.size (fun _ => True) v out ∧ RwI m p tos k out) ∧ Aside0 (Below w.heap.size w wr)) (fun _ iv _ => p.length - (intOf iv).toNat)
  case atStart => exact ⟨0, by omega, rfl, ⟨_, HR.out, rwI_start m p tos⟩, HB⟩
  case round =>
    obtain ⟨k, hk, rfl, HQ, HB⟩ := hrel
    obtain ⟨out, hR, hI⟩ := HQ.out
    have hwr := HB.out.size
    have hol := hI.len
    clear HQ
    by_cases hlt : k < p.length
    · obtain ⟨b1, o1, e, hb1, hc1⟩ := at_num (Kd.C_below HP.out HB.out) k hlt
      cases e
      obtain ⟨b2, o2, e, hb2, hc2⟩ := at_num (Kd.C_below HT.out HB.out) k hlt
      cases e
      have hpx : p[k]? = some (p.getD k 0) := by rw [List.getD_eq_getElem?_getD, List.getElem?_eq_getElem hlt]; rfl
      have htx : tos[k]? = some (tos.getD k 0) := by rw [List.getD_eq_getElem?_getD, List.getElem?_eq_getElem (by rw [HL.out]; exact hlt)]; rfl
      obtain ⟨x, hx⟩ : ∃ x, x = p.getD k 0 := ⟨_, rfl⟩
      obtain ⟨t, htt⟩ : ∃ t, t = tos.getD k 0 := ⟨_, rfl⟩
      rw [← hx] at hc1 hpx
      rw [← htt] at hc2 htx
      have htm := HM.out t (List.mem_of_getElem? htx)
      have HPX := Aside0.mk hpx
      have HTX := Aside0.mk htx
      have HTM := Aside0.mk htm
      have hki : (k : Int) < (p.length : Int) := by omega
      clear hx htt hpx htx htm
      go_upto_if 20 with (fail)
      go_cut [7] (fun v wc => v = .int .i32 (hiP p k) ∧ wr = wc)
      case first =>
        by_cases h1 : k + 1 < p.length
        · obtain ⟨b3, o3, e, hb3, hc3⟩ := at_num (Kd.C_below HP.out HB.out) (k + 1) h1
          cases e
          have hpy : p[k + 1]? = some (p.getD (k + 1) 0) := by rw [List.getD_eq_getElem?_getD, List.getElem?_eq_getElem h1]; rfl
          obtain ⟨y, hy⟩ : ∃ y, y = p.getD (k + 1) 0 := ⟨_, rfl⟩
          rw [← hy] at hc3 hpy
          have hyC := HPT.out.C hpy
          have hy0 : -2147483648 < y := by unfold isC at hyC; omega
          have hy1 : y ≤ 2147483647 := by unfold isC at hyC; omega
          have HF := Aside0.mk (show hiP p k = pv y from by unfold hiP; rw [hpy])
          have h1b : decide ((k : Int) + 1 < (p.length : Int)) = true := decide_eq_true (by omega)
          have hk0 : 0 ≤ (k : Int) + 1 := by omega
          have hk1 : (k : Int) + 1 < (p.length : Int) := by omega
          clear hpy hyC hy
          go_wp2_with (go_at_call 73; refine (beforeR_calls _ hy0 hy1 _).mono ?_; rintro e w' ⟨rfl, rfl⟩)
          go_meet
          case rel => exact ⟨(by rw [HF.out] <;> rfl), rfl⟩
        · have h1b : decide ((k : Int) + 1 < (p.length : Int)) = false := decide_eq_false (by omega)
          have HF := Aside0.mk (show hiP p k = 1114111 from by unfold hiP; rw [List.getElem?_eq_none (by omega)])
          go_wp2
          go_meet
          case rel => exact ⟨(by rw [HF.out] <;> rfl), rfl⟩
      case rest =>
        obtain ⟨rfl, rfl⟩ := hcut
        obtain ⟨hh, hhe⟩ : ∃ hh, hh = hiP p k := ⟨_, rfl⟩
        rw [← hhe]
        have HH := Aside0.mk hhe
        clear hhe
        by_cases ht0 : t < 0
        · have HN := Aside0.mk (hI.skip HPT.out HTX.out HPX.out ht0)
          have HRO := Aside0.mk hR
          have htb : decide (t < 0) = true := decide_eq_true ht0
          clear hI hR
          go_wp2
          go_roundw
          case rel => exact ⟨k + 1, by omega, by go_num, ⟨out, HRO.out, HN.out⟩, HB⟩
          case measure => simp [intOf]; omega
        · have htb : decide (t < 0) = false := decide_eq_false ht0
          have htn : 0 ≤ t := by omega
          by_cases hj : ∃ k', k = k' + 1 ∧ tos[k']? = some t
          · obtain ⟨k', rfl, htk⟩ := hj
            obtain ⟨pre, a, rfl, hat, hah⟩ := hI.last k' t rfl htk htn
            have HN := Aside0.mk (hI.join HPT.out HTX.out HPX.out htn rfl htk)
            have hkl : k' < p.length := by omega
            obtain ⟨b4, o4, e, hb4, hc4⟩ := at_num (Kd.C_below HT.out HB.out) k' hkl
            cases e
            rw [show tos.getD k' 0 = t from by rw [List.getD_eq_getElem?_getD, htk]; rfl] at hc4
            obtain ⟨g, cap, rfl, hg0, hg1, _⟩ := Kd.R_form hR (by simp)
            obtain ⟨cs, _, hM, hcz, hfz⟩ := Kd.R_elem hR default (pre.length : Int) (by omega) (by simp; omega)
            have ez : (pre ++ [a]).getD (pre.length : Int).toNat default = a := by simp
            rw [ez] at hM
            obtain rfl := kArc_openM hM
            have e3 : (pre.length : Int).toNat * kArc.sz = pre.length * 3 := rfl
            have z1 := hcz 1 _ rfl
            have f1 := hfz 1
            rw [e3] at z1 f1
            clear hcz hfz e3 ez hM
            have elen : (pre ++ [a]).length = pre.length + 1 := by simp
            rw [elen] at hR hol ⊢
            have zz : 0 ≤ (pre.length : Int) ∧ (pre.length : Int) < (pre.length : Int) + 1 := ⟨by omega, by omega⟩
            have hput := fun q : Nat => R_flat_put kArc arcCells (fun _ => rfl) kArc_flat (Kd.R_drewN hR q) pre.length 1 (by simp) (by decide) ⟨a.lo, hh, a.to⟩ (.int .i32 hh) (by simp [arcCells])
            have HPUT := Aside0.mk hput
            have HEL := Aside0.mk elen
            have k0b : decide ((0 : Int) < (k' : Int) + 1) = true := decide_eq_true (by omega)
            have ttb : (t == t) = true := beq_self_eq_true t
            have kpb : decide ((0 : Int) ≤ (pre.length : Int)) = true := decide_eq_true (by omega)
            have hki2 : (k' : Int) < (p.length : Int) := by omega
            clear hI hR htk hat hah hput elen
            go_wp2_with fail
            go_quiet (fail)
            go_wp2
            go_roundw
            case rel =>
              refine ⟨k' + 1 + 1, by omega, by go_num, ⟨pre ++ [⟨a.lo, hh, a.to⟩], ?_, by rw [HH.out]; exact HN.out⟩, ⟨below_set (pw_below_drewN HB.out _) hg0⟩⟩
              rw [show pre ++ [(⟨a.lo, hh, a.to⟩ : Arc)] = (pre ++ [a]).set pre.length ⟨a.lo, hh, a.to⟩ by simp]
              exact (HPUT.out _).1
            case measure => simp [intOf]; omega
          · have HN := Aside0.mk (hI.new HPT.out HTX.out HPX.out htn HTM.out (fun k' e h => hj ⟨k', e, h⟩) (by rw [HL.out]; omega))
            have HRO := Aside0.mk hR
            obtain ⟨A5, c5, rfl⟩ := Kd.R_slice hR
            have HJ := Aside0.mk hj
            clear hI hR hj
            go_upto_region 10 with (fail)
            go_cut [52] (fun v wc => v = .bool false ∧ Aside0 (Below wr.heap.size wr wc))
            case first =>
              rcases Nat.eq_zero_or_pos k with hk0 | hk0
              · subst hk0
                go_quiet (fail)
                go_wp2
                go_meet
                case rel => exact ⟨rfl, ⟨pw_below_drewN (Below.refl _ _) _⟩⟩
              · obtain ⟨k', rfl⟩ : ∃ k', k = k' + 1 := ⟨k - 1, by omega⟩
                have hkl : k' < p.length := by omega
                obtain ⟨b4, o4, e, hb4, hc4⟩ := at_num (Kd.C_below HT.out HB.out) k' hkl
                cases e
                have hu : tos[k']? = some (tos.getD k' 0) := by rw [List.getD_eq_getElem?_getD, List.getElem?_eq_getElem (by rw [HL.out]; exact hkl)]; rfl
                obtain ⟨u, hue⟩ : ∃ u, u = tos.getD k' 0 := ⟨_, rfl⟩
                rw [← hue] at hc4 hu
                have hut : u ≠ t := fun he => HJ.out ⟨k', rfl, by rw [hu, he]⟩
                have utb : (u == t) = false := beq_eq_false_iff_ne.2 hut
                have k0b : decide ((0 : Int) < (k' : Int) + 1) = true := decide_eq_true (by omega)
                have hki2 : (k' : Int) < (p.length : Int) := by omega
                clear hu hue hut
                go_quiet (fail)
                go_wp2
                go_meet
                case rel => exact ⟨rfl, ⟨pw_below_drewN (Below.refl _ _) _⟩⟩
            case rest =>
              obtain ⟨rfl, HBC⟩ := hcut
              rename World => W1
              have hbc := HBC.out
              have hb0 : Below w.heap.size w W1 := HB.out.trans (hbc.mono hwr)
              obtain ⟨b6, o6, e, hb6, d1⟩ := at_num HP.out k hlt
              cases e
              obtain ⟨b7, o7, e, hb7, d2⟩ := at_num HT.out k hlt
              cases e
              rw [show p.getD k 0 = x from by rw [List.getD_eq_getElem?_getD, HPX.out]; rfl] at d1
              rw [show tos.getD k 0 = t from by rw [List.getD_eq_getElem?_getD, HTX.out]; rfl] at d2
              have hw1 := hb0.size
              have g1 : W1.drew.cell? ⟨b1, o1 + k, none⟩ = some (.int .i32 x) := ((below_drew hb0).cell (p := ⟨b1, o1 + k, none⟩) hb6).trans d1
              have g2 : W1.drew.cell? ⟨b2, o2 + k, none⟩ = some (.int .i64 t) := ((below_drew hb0).cell (p := ⟨b2, o2 + k, none⟩) hb7).trans d2
              have hRd := Kd.R_drew (Kd.R_below HRO.out hbc)
              have hRa := Kd.R_alloc hRd (.cells #[.int .i32 x, .int .i32 hh, .int .i64 t] 54)
              have hoE := arc_own hRa
              obtain ⟨i0, hi0, hz0, hz1, hz2⟩ := info_parts infoArc
              have hnw := heap_alloc_new W1.drew (.cells #[.int .i32 x, .int .i32 hh, .int .i64 t] 54)
              have hsz1 : W1.drew.heap.size = W1.heap.size := rfl
              rw [hsz1] at hnw
              have HOE := Aside0.mk hoE
              have HNW := Aside0.mk (World.news_of_block hnw)
              have HMX := Aside0.mk (show out.length + 1 ≤ maxLen by unfold maxLen; omega)
              have HBY := Aside0.mk (show (out.length + 1) * 16 ≤ 140737488355328 by omega)
              have HBS := Aside0.mk (Kd.R_base HRO.out)
              have HBD := Aside0.mk ((below_drew hb0).alloc hw1 (.cells #[.int .i32 x, .int .i32 hh, .int .i64 t] 54))
              have HG1 := Aside0.mk (((below_drew hb0).alloc hw1 (.cells #[.int .i32 x, .int .i32 hh, .int .i64 t] 54)).cell (p := ⟨b1, o1 + k, none⟩) hb6)
              have HG2 := Aside0.mk (((below_drew hb0).alloc hw1 (.cells #[.int .i32 x, .int .i32 hh, .int .i64 t] 54)).cell (p := ⟨b2, o2 + k, none⟩) hb7)
              have ga1 := HG1.out.trans d1
              have ga2 := HG2.out.trans d2
              have HGA1 := Aside0.mk ga1
              have HGA2 := Aside0.mk ga2
              have hlb6 : b1 < W1.heap.size := by omega
              have hlb7 : b2 < W1.heap.size := by omega
              clear hRd hRa hoE hnw hsz1 hbc
              go_wp2_with fail
              go_region_held3 (fun w' => w'.cell? ⟨b1, o1 + k, none⟩ = some (.int .i32 x) ∧ w'.cell? ⟨b2, o2 + k, none⟩ = some (.int .i64 t))
                (first | exact ⟨g1, g2⟩ | exact ⟨ga1, ga2⟩)
                (first
                  | (refine step_append_lies _ (by rfl) _ _ _ (by rfl) w.heap.size 54 i0 _ 3 16 Tryd.underlying50 hi0 hz0 hz1 hz2 rfl (by omega) (.slice A5 out.length c5) out.length _ (by rfl) HOE.out ⟨W1.heap.size, 0, none⟩ 1 1 [.int .i32 x, .int .i32 hh, .int .i64 t] (by rfl) (by rfl) HNW.out (by simp [Value.oneCell']) (by omega) HMX.out HBY.out (by simp; omega) (W1.heap.size + 1) (by simp) ?_; intro gg cap2 w2 hown2 hgrow hat hlt2; have g1 := (hgrow.cell_far ⟨b1, o1 + k, none⟩ (by simp; omega) (fun he => (by have := HBS.out b1 he.symm; omega))).trans HGA1.out; have g2 := (hgrow.cell_far ⟨b2, o2 + k, none⟩ (by simp; omega) (fun he => (by have := HBS.out b2 he.symm; omega))).trans HGA2.out; have HGW := Aside0.mk hgrow; have HOW2 := Aside0.mk hown2; clear hgrow hown2 hat hlt2))
              all_goals
                go_wp2
                go_roundw
                case rel =>
                  refine ⟨k + 1, by omega, by go_num, ⟨out ++ [⟨x, hh, t⟩], ?_, by rw [HH.out]; exact HN.out⟩, ⟨HBD.out.grown HGW.out (by simp; omega) HBS.out⟩⟩
                  refine arc_R ?_ (fun _ _ => trivial)
                  rw [List.length_append, List.flatMap_append]
                  exact HOW2.out
                case measure => simp [intOf]; omega
    · obtain rfl : k = p.length := by omega
      have HRO := Aside0.mk hR
      have HF := Aside0.mk hI
      clear hR hI
      go_wp2
      go_ret
      exact ⟨_, out, rfl, HRO.out, HF.out, HB.out⟩
end Go.Proofs.YthohahcpdgebbaaDoor.Wk
namespace Go.Proofs.YthohahcpdgebbaaDoor.Wk
open Go.RowKit Go.Proofs.YthohahcpdgebbaaDoorW.PrintWords Go.Proofs.YthohahcpdgebbaaDoorW.PrintLast Go.Proofs.YthohahcpdgebbaaDoorW.PrintMore
open Go.Proofs.YthohahcpdgebbaaDoor.Th Go.Proofs.YthohahcpdgebbaaDoor.PMinimize
set_option linter.unusedVariables false
set_option linter.unusedSimpArgs false
theorem C_map {α β : Type} {d : Kd α} {d' : Kd β} (f : α → β) (hsz : d'.sz = d.sz) (hK : ∀ w x c, d.K w x c → d'.K w (f x) c) {w : World} {A : Option Addr} {n : Nat} {xs : List α} (h : d.C w A n xs) : d'.C w A n (xs.map f) := by
  obtain ⟨h1, h2, h3⟩ := h
  refine ⟨by rw [List.length_map]; exact h1, h2, fun hn => ?_⟩
  obtain ⟨ad, e, hc⟩ := h3 hn
  refine ⟨ad, e, fun j p hj => ?_⟩
  rw [List.getElem?_map] at hj
  obtain ⟨x, hx, rfl⟩ := Option.map_eq_some_iff.1 hj
  obtain ⟨c, c1, c2, c3⟩ := hc j x hx
  exact ⟨c, by rw [hsz]; exact c1, hK _ _ _ c2, by rw [hsz]; exact c3⟩
def toS (a : Arc) : S54 := ⟨⟨a.lo, a.hi⟩, a.to⟩
theorem arc_S {w : World} {x : Arc} {c : List Value} (h : kArc.K w x c) : k54.K w (toS x) c := by
  rw [kArc_open h]
  exact k54_mk w (toS x)
theorem arcs_S {w : World} {x : List Arc} {c : List Value} (h : (Kd.slice 54 kArc).K w x c) : (Kd.slice 54 k54).K w (x.map toS) c := by
  obtain ⟨A0, c0, rfl, l0, g0⟩ := h
  refine ⟨A0, c0, by rw [List.length_map], by rw [List.length_map]; exact l0, ?_⟩
  rw [List.length_map]
  exact C_map toS rfl (fun _ _ _ h => arc_S h) g0
theorem wrap_next {i : Nat} (h : i ≤ 4294967296) : wrap64 ((i : Int) + 1) = ((i + 1 : Nat) : Int) := by
  unfold wrap64
  omega
theorem insert_l0 (l : List Int) (r : Int) (hl : asc l) (hmax : l.length ≤ 17592186044416) : ∀ (d k i : Nat), l.length - i = d → i ≤ l.length → d < k → (∀ x ∈ l.take i, x < r) →
    ∃ l', narratorref33_insert.l0 k l r i = some l' ∧ InsOf l r l' ∧ l'.length ≤ l.length + 1 := by
  intro d
  induction d with
  | zero =>
    intro k i hd hi hk hlt
    obtain ⟨k, rfl⟩ : ∃ m, k = m + 1 := ⟨k - 1, by omega⟩
    have hil : i = l.length := by omega
    refine ⟨l.take i ++ r :: l.drop i, ?_, insOf_at hl hi hlt (fun y hy => by rw [hil, List.getElem?_eq_none (Nat.le_refl _)] at hy; cases hy), by simp; omega⟩
    simp only [narratorref33_insert.l0]
    rw [if_neg (by omega)]
    try simp only [Option.bind_some]
    rw [if_pos (by omega), if_pos (by omega)]
    try simp only [Option.bind_some, Int.toNat_natCast]
    rw [if_pos (by simp; omega)]
    try simp only [Option.bind_some]
    rw [if_pos (by simp; omega)]
    try simp only [Option.bind_some]
    rw [if_pos (by simp; omega)]
    simp
  | succ d ih =>
    intro k i hd hi hk hlt
    obtain ⟨k, rfl⟩ : ∃ m, k = m + 1 := ⟨k - 1, by omega⟩
    have hil : i < l.length := by omega
    have hrd : rd l (i : Int) = l[i] := by
      unfold rd
      rw [Int.toNat_natCast, List.getD_eq_getElem?_getD, List.getElem?_eq_getElem hil]
      rfl
    have hget : l[i]? = some l[i] := List.getElem?_eq_getElem hil
    simp only [narratorref33_insert.l0]
    rw [if_pos (by omega), if_pos (by omega), hrd]
    rcases Int.lt_trichotomy l[i] r with h1 | h1 | h1
    · rw [if_pos h1]
      have hw : wrap64 ((i : Int) + 1) = ((i + 1 : Nat) : Int) := by unfold wrap64; omega
      rw [hw]
      refine ih k (i + 1) (by omega) (by omega) (by omega) (fun x hx => ?_)
      rw [List.take_succ_eq_append_getElem hil] at hx
      rcases List.mem_append.1 hx with hx | hx
      · exact hlt x hx
      · rw [List.mem_singleton.1 hx]
        exact h1
    · rw [if_neg (by omega), if_pos h1]
      exact ⟨l, rfl, insOf_has hl (by rw [hget, h1]), by omega⟩
    · rw [if_neg (by omega), if_neg (by omega)]
      refine ⟨l.take i ++ r :: l.drop i, ?_, insOf_at hl hi hlt (fun y hy => by rw [hget] at hy; injection hy with hy; omega), by simp; omega⟩
      try simp only [Option.bind_some]
      rw [if_pos (by omega)]
      try simp only [Option.bind_some, Int.toNat_natCast]
      rw [if_pos (by simp; omega)]
      try simp only [Option.bind_some]
      rw [if_pos (by simp; omega)]
      try simp only [Option.bind_some]
      rw [if_pos (by simp; omega)]
      simp
theorem insert_is (l : List Int) (r : Int) (hl : asc l) (hmax : l.length ≤ 17592186044416) : ∃ (l' : List Int) (K : Nat), (∀ k, K ≤ k → narratorref33_insert.f k l r = some l') ∧ InsOf l r l' ∧ l'.length ≤ l.length + 1 := by
  obtain ⟨l', h1, h2, h3⟩ := insert_l0 l r hl hmax l.length (l.length + 1) 0 (by omega) (by omega) (by omega) (by simp)
  exact ⟨l', l.length + 1, fun k hk => at_rounds (fun q => narratorref33_insert.mono l r q) hk h1, h2, h3⟩
theorem after_is {r : Int} (h : isC r) : narratorref33_after.f r = some (nx r) := by
  unfold narratorref33_after.f nx
  split
  · rfl
  · have : wrap32 (r + 1) = r + 1 := by unfold isC at h; unfold wrap32; omega
    rw [this]
section
variable {rows : List (List Arc)}
def rowsS (rows : List (List Arc)) : List (List S54) := rows.map (List.map toS)
theorem rowsS_at {i : Nat} (hi : i < rows.length) : rd_L4 (rowsS rows) (i : Int) = (rows.getD i []).map toS := by
  unfold rd_L4 rowsS
  rw [Int.toNat_natCast, List.getD_eq_getElem?_getD, List.getElem?_map, List.getElem?_eq_getElem hi, List.getD_eq_getElem?_getD, List.getElem?_eq_getElem hi]
  rfl
theorem rowS_at {l : List Arc} {j : Nat} (hj : j < l.length) : rd_T54 (l.map toS) (j : Int) = toS (l.getD j default) := by
  unfold rd_T54
  rw [Int.toNat_natCast, List.getD_eq_getElem?_getD, List.getElem?_map, List.getElem?_eq_getElem hj, List.getD_eq_getElem?_getD, List.getElem?_eq_getElem hj]
  rfl
def seenA (rows : List (List Arc)) (i j : Nat) : List Arc := (rows.take i).flatten ++ (rows.getD i []).take j
theorem seen_next {i j : Nat} (hj : j < (rows.getD i []).length) : seenA rows i (j + 1) = seenA rows i j ++ [(rows.getD i []).getD j default] := by
  unfold seenA
  rw [take_next default hj, List.append_assoc]
theorem seen_row {i : Nat} (hi : i < rows.length) : seenA rows i (rows.getD i []).length = seenA rows (i + 1) 0 := by
  unfold seenA
  rw [List.take_length, take_next [] hi, List.flatten_append]
  simp
theorem seen_all : seenA rows rows.length 0 = rows.flatten := by simp [seenA]
structure PJ (rows : List (List Arc)) (i j : Nat) (p : List Int) : Prop where
  pts : PtsI p (seenA rows i j)
  len : p.length ≤ 1 + 2 * (seenA rows i j).length
theorem pj_next {i j : Nat} {p q p' : List Int} (h : PJ rows i j p) (hj : j < (rows.getD i []).length) (hC : isC ((rows.getD i []).getD j default).lo ∧ isC ((rows.getD i []).getD j default).hi) (h1 : InsOf p ((rows.getD i []).getD j default).lo q) (l1 : q.length ≤ p.length + 1)
    (h2 : (((rows.getD i []).getD j default).hi < 1114111 ∧ InsOf q (nx ((rows.getD i []).getD j default).hi) p') ∨ (¬ ((rows.getD i []).getD j default).hi < 1114111 ∧ p' = q)) (l2 : p'.length ≤ q.length + 1) : PJ rows i (j + 1) p' := by
  refine ⟨by rw [seen_next hj]; exact h.pts.arc hC.1 hC.2 h1 h2, ?_⟩
  rw [seen_next hj, List.length_append]
  have := h.len
  simp
  omega
theorem seen_le {i j : Nat} (hi : i < rows.length) (hj : j ≤ (rows.getD i []).length) : (seenA rows i j).length ≤ rows.flatten.length := by
  have e : rows.flatten = seenA rows i j ++ ((rows.getD i []).drop j ++ (rows.drop (i + 1)).flatten) := by
    unfold seenA
    rw [List.append_assoc, ← List.append_assoc ((rows.getD i []).take j), List.take_append_drop]
    conv => lhs; rw [← List.take_append_drop i rows, List.flatten_append, List.drop_eq_getElem_cons hi, List.flatten_cons]
    rw [List.getD_eq_getElem?_getD, List.getElem?_eq_getElem hi]
    rfl
  rw [e, List.length_append]
  omega
theorem points_go (hC : ∀ l ∈ rows, ∀ a ∈ l, isC a.lo ∧ isC a.hi) (hn : rows.length ≤ 4294967296) (hr : ∀ l ∈ rows, l.length ≤ 4294967296) (hmax : rows.flatten.length ≤ 1099511627776) : ∀ (n i : Nat) (p : List Int), rows.length - i = n → i ≤ rows.length → PJ rows i 0 p →
    ∃ (p' : List Int) (K : Nat), (∀ k, K ≤ k → narratorref33_points.l0 k (rowsS rows) p i = some p') ∧ PJ rows rows.length 0 p' := by
  have hRL : (rowsS rows).length = rows.length := by simp [rowsS]
  intro n
  induction n with
  | zero =>
    intro i p hd hi hp
    obtain rfl : i = rows.length := by omega
    refine ⟨p, 1, fun k hk => ?_, hp⟩
    obtain ⟨k, rfl⟩ : ∃ m, k = m + 1 := ⟨k - 1, by omega⟩
    simp only [narratorref33_points.l0]
    rw [if_neg (by rw [hRL]; omega)]
  | succ n ih =>
    intro i p hd hi hp
    have hil : i < rows.length := by omega
    have hrow := rowsS_at (rows := rows) hil
    have hmem : rows.getD i [] ∈ rows := getD_in [] hil
    have hrl := hr _ hmem
    have inner : ∀ (e j : Nat) (p : List Int), (rows.getD i []).length - j = e → j ≤ (rows.getD i []).length → PJ rows i j p →
        ∃ (p' : List Int) (K : Nat), (∀ k, K ≤ k → narratorref33_points.l1 k (rowsS rows) p i j = some p') ∧ PJ rows rows.length 0 p' := by
      intro e
      induction e with
      | zero =>
        intro j p he hj hp
        obtain rfl : j = (rows.getD i []).length := by omega
        obtain ⟨p', K, h1, h2⟩ := ih (i + 1) p (by omega) (by omega) ⟨by rw [← seen_row hil]; exact hp.pts, by rw [← seen_row hil]; exact hp.len⟩
        refine ⟨p', K + 1, fun k hk => ?_, h2⟩
        obtain ⟨k, rfl⟩ : ∃ m, k = m + 1 := ⟨k - 1, by omega⟩
        simp only [narratorref33_points.l1]
        rw [if_pos (by omega), if_pos (by rw [hRL]; omega), hrow, List.length_map, if_neg (by omega), wrap_next (by omega)]
        exact h1 k (by omega)
      | succ e ihe =>
        intro j p he hj hp
        have hjl : j < (rows.getD i []).length := by omega
        have hat := rowS_at (l := rows.getD i []) hjl
        have hCa := hC _ hmem _ (getD_in default hjl)
        have hlen := hp.len
        have hsl := seen_le (rows := rows) (j := j) hil (by omega)
        obtain ⟨q, K1, g1, g2, g3⟩ := insert_is p ((rows.getD i []).getD j default).lo hp.pts.asc (by omega)
        by_cases hh : ((rows.getD i []).getD j default).hi < 1114111
        · obtain ⟨p2, K2, f1, f2, f3⟩ := insert_is q (nx ((rows.getD i []).getD j default).hi) g2.1 (by omega)
          obtain ⟨p', K, h1, h2⟩ := ihe (j + 1) p2 (by omega) (by omega) (pj_next hp hjl hCa g2 g3 (.inl ⟨hh, f2⟩) f3)
          refine ⟨p', K + K1 + K2 + 1, fun k hk => ?_, h2⟩
          obtain ⟨k, rfl⟩ : ∃ m, k = m + 1 := ⟨k - 1, by omega⟩
          simp only [narratorref33_points.l1]
          rw [if_pos (by omega), if_pos (by rw [hRL]; omega), hrow, List.length_map, if_pos (by omega), if_pos (by omega), hat]
          rw [show (toS ((rows.getD i []).getD j default)).f0.f0 = ((rows.getD i []).getD j default).lo from rfl, show (toS ((rows.getD i []).getD j default)).f0.f1 = ((rows.getD i []).getD j default).hi from rfl]
          rw [g1 k (by omega), Option.bind_some, if_pos hh, after_is hCa.2, Option.bind_some, f1 k (by omega), Option.bind_some, wrap_next (by omega)]
          exact h1 k (by omega)
        · obtain ⟨p', K, h1, h2⟩ := ihe (j + 1) q (by omega) (by omega) (pj_next hp hjl hCa g2 g3 (.inr ⟨hh, rfl⟩) (by omega))
          refine ⟨p', K + K1 + 1, fun k hk => ?_, h2⟩
          obtain ⟨k, rfl⟩ : ∃ m, k = m + 1 := ⟨k - 1, by omega⟩
          simp only [narratorref33_points.l1]
          rw [if_pos (by omega), if_pos (by rw [hRL]; omega), hrow, List.length_map, if_pos (by omega), if_pos (by omega), hat]
          rw [show (toS ((rows.getD i []).getD j default)).f0.f0 = ((rows.getD i []).getD j default).lo from rfl, show (toS ((rows.getD i []).getD j default)).f0.f1 = ((rows.getD i []).getD j default).hi from rfl]
          rw [g1 k (by omega), Option.bind_some, if_neg hh, wrap_next (by omega)]
          exact h1 k (by omega)
    obtain ⟨p', K, h1, h2⟩ := inner _ 0 p rfl (by omega) hp
    refine ⟨p', K + 1, fun k hk => ?_, h2⟩
    obtain ⟨k, rfl⟩ : ∃ m, k = m + 1 := ⟨k - 1, by omega⟩
    simp only [narratorref33_points.l0]
    rw [if_pos (by rw [hRL]; omega)]
    exact h1 k (by omega)
end
theorem points_calls (rows : List (List Arc)) (A1 : Option Addr) (c1 : Nat) (w : World) (hr : (Kd.slice 54 kArc).C w A1 rows.length rows) (hc : rows.length ≤ c1) (hC : ∀ l ∈ rows, ∀ a ∈ l, isC a.lo ∧ isC a.hi) (hn : rows.length ≤ 4294967296) (hl : ∀ l ∈ rows, l.length ≤ 4294967296) (hmax : rows.flatten.length ≤ 1099511627776) :
    Calls Tryd.prog 34 #[.slice A1 rows.length c1] w fun e w' => ∃ v p, e = .returned v ∧ (Kd.int .i32).R 21 w' w.heap.size (fun _ => True) v p ∧ Pts rows p ∧ p.length ≤ 1 + 2 * rows.flatten.length ∧ Below w.heap.size w w' := by
  obtain ⟨p, K, h1, h2⟩ := points_go hC hn hl hmax rows.length 0 [0] (by omega) (by omega) ⟨by simpa [seenA] using ptsI_start, by simp⟩
  have hlen : (rowsS rows).length = rows.length := by simp [rowsS]
  have hC2 := C_map (List.map toS) rfl (fun _ _ _ h => arcs_S h) hr
  have h := narratorref33_points.calls K A1 c1 (rowsS rows) p w (by rw [hlen]; exact hC2) (by rw [hlen]; exact hc) (h1 K (Nat.le_refl _))
  rw [hlen] at h
  refine h.mono ?_
  rintro e w' ⟨v, rfl, hR, hb⟩
  refine ⟨v, p, rfl, hR, PtsI.pts (by have := h2.pts; rwa [seen_all] at this), ?_, hb⟩
  have := h2.len
  rwa [seen_all] at this
end Go.Proofs.YthohahcpdgebbaaDoor.Wk
namespace Go.Proofs.YthohahcpdgebbaaDoor.Wk
open Go.RowKit Go.Proofs.YthohahcpdgebbaaDoorW.PrintWords Go.Proofs.YthohahcpdgebbaaDoorW.PrintLast Go.Proofs.YthohahcpdgebbaaDoorW.PrintMore
open Go.Proofs.YthohahcpdgebbaaDoor.Th
set_option linter.unusedVariables false
set_option linter.unusedSimpArgs false
def Dj (u v : Value) : Prop := ∀ q, u.ownBlock = some q → v.ownBlock ≠ some q
theorem Dj.new {u u1 v : Value} {w : World} (h : Dj u v) (hat : u1.ownBlock = u.ownBlock ∨ ∃ b, u1.ownBlock = some b ∧ w.heap.size ≤ b) (hv : ∀ q, v.ownBlock = some q → q < w.heap.size) : Dj u1 v := fun q hq hv2 => by
  rcases hat with hat | ⟨b, hb, hle⟩
  · rw [hat] at hq
    exact h q hq hv2
  · rw [hb] at hq
    injection hq with hq
    have := hv q hv2
    omega
theorem Dj.symm {u v : Value} (h : Dj u v) : Dj v u := fun q hq hu => h q hu hq
structure RT (w : World) (base ob : Nat) (va vl vo vt : Value) (arcs : List (List Arc)) (labs order tos : List Int) : Prop where
  bo : base ≤ ob
  box : w.heap[ob]? = some (.cells #[.int .i64 0, va, vl] 28 (0, 0))
  ra : kArcs.R 50 w base (fun _ => True) va arcs
  rl : (Kd.int .i64).R 3 w base (fun _ => True) vl labs
  ro : (Kd.int .i64).R 3 w base (fun _ => True) vo order
  rt : (Kd.int .i64).R 3 w base (fun _ => True) vt tos
  ol : Dj vo vl
  tl : Dj vt vl
  to_ : Dj vt vo
section
variable {w w1 w2 : World} {base ob : Nat} {va vl vo vt v1 : Value} {arcs : List (List Arc)} {labs order tos : List Int} {x : Int}
theorem RT.later (h : RT w base ob va vl vo vt arcs labs order tos) (hb : Below w.heap.size w w1) : RT w1 base ob va vl vo vt arcs labs order tos :=
  ⟨h.bo, by rw [hb.block ob (box_lt h.box)]; exact h.box, Kd.R_below h.ra hb, Kd.R_below h.rl hb, Kd.R_below h.ro hb, Kd.R_below h.rt hb, h.ol, h.tl, h.to_⟩
theorem int_far {t : Nat} {u v : Value} {xs : List Int} {k : IntKind} (h : (Kd.int k).R t w base (fun _ => True) u xs) (hd : Dj u v) (hg : w.grownBy w1 v.ownBlock) : (Kd.int k).R t w1 base (fun _ => True) u xs := ints_other h hd hg
theorem RT.appT (h : RT w base ob va vl vo vt arcs labs order tos) (hR : (Kd.int .i64).R 3 w1 base (fun _ => True) v1 (tos ++ [x])) (hg : w.grownBy w1 vt.ownBlock) (hat : v1.ownBlock = vt.ownBlock ∨ ∃ b, v1.ownBlock = some b ∧ w.heap.size ≤ b) :
    RT w1 base ob va vl vo v1 arcs labs order (tos ++ [x]) :=
  ⟨h.bo, by rw [hg.block ob (box_lt h.box) (Kd.R_ne h.rt h.box (by decide))]; exact h.box, Kd.R_over' h.ra (Kd.R_typed h.rt) (fun q hq => by rcases arcs_E hq with h | h <;> rw [h] <;> decide) hg,
    int_far h.rl h.tl.symm hg, int_far h.ro h.to_.symm hg, hR, h.ol, h.tl.new hat (Kd.R_lt h.rl), h.to_.new hat (Kd.R_lt h.ro)⟩
theorem RT.appO (h : RT w base ob va vl vo vt arcs labs order tos) (hR : (Kd.int .i64).R 3 w1 base (fun _ => True) v1 (order ++ [x])) (hg : w.grownBy w1 vo.ownBlock) (hat : v1.ownBlock = vo.ownBlock ∨ ∃ b, v1.ownBlock = some b ∧ w.heap.size ≤ b) :
    RT w1 base ob va vl v1 vt arcs labs (order ++ [x]) tos :=
  ⟨h.bo, by rw [hg.block ob (box_lt h.box) (Kd.R_ne h.ro h.box (by decide))]; exact h.box, Kd.R_over' h.ra (Kd.R_typed h.ro) (fun q hq => by rcases arcs_E hq with h | h <;> rw [h] <;> decide) hg,
    int_far h.rl h.ol.symm hg, hR, int_far h.rt h.to_ hg, h.ol.new hat (Kd.R_lt h.rl), h.tl, (h.to_.symm.new hat (Kd.R_lt h.rt)).symm⟩
theorem RT.newT (h : RT w base ob va vl vo vt arcs labs order tos) (hb : Below w.heap.size w w1) {ys : List Int} (hR : (Kd.int .i64).R 3 w1 w.heap.size (fun _ => True) v1 ys) (hbase : base ≤ w.heap.size) : RT w1 base ob va vl vo v1 arcs labs order ys := by
  have h1 := h.later hb
  have hn : ∀ q, v1.ownBlock = some q → w.heap.size ≤ q := Kd.R_base hR
  exact ⟨h1.bo, h1.box, h1.ra, h1.rl, h1.ro, Kd.R_lower hR hbase, h1.ol, fun q hq hl => by have := hn q hq; have := Kd.R_lt h.rl q hl; omega, fun q hq hl => by have := hn q hq; have := Kd.R_lt h.ro q hl; omega⟩
theorem RT.appA (h : RT w base ob va vl vo vt arcs labs order tos) {row : List Arc} {u : Value} (hR : kArcs.R 50 w1 base (fun _ => True) v1 (arcs ++ [row])) (hg : w.grownBy w1 va.ownBlock) : RT (w1.setCell ⟨ob, 1, none⟩ v1) base ob v1 vl vo vt (arcs ++ [row]) labs order tos := by
  have hbx : w1.heap[ob]? = some (.cells #[.int .i64 0, va, vl] 28 (0, 0)) := by rw [hg.block ob (box_lt h.box) (Kd.R_ne h.ra h.box (by decide))]; exact h.box
  have hi : ∀ {u : Value} {xs : List Int}, (Kd.int .i64).R 3 w base (fun _ => True) u xs → (Kd.int .i64).R 3 (w1.setCell ⟨ob, 1, none⟩ v1) base (fun _ => True) u xs := fun hr =>
    Kd.R_set (Kd.R_over' hr (Kd.R_typed h.ra) (fun q hq => by rw [int_E hq]; decide) hg) hbx (fun q hq => by rw [int_E hq]; decide) 1 v1
  exact ⟨h.bo, by simp [World.setCell, Array.getElem?_modify, hbx], Kd.R_set hR hbx (fun q hq => by rcases arcs_E hq with h | h <;> rw [h] <;> decide) 1 v1, hi h.rl, hi h.ro, hi h.rt, h.ol, h.tl, h.to_⟩
theorem RT.appL (h : RT w base ob va vl vo vt arcs labs order tos) (hR : (Kd.int .i64).R 3 w1 base (fun _ => True) v1 (labs ++ [x])) (hg : w.grownBy w1 vl.ownBlock) (hat : v1.ownBlock = vl.ownBlock ∨ ∃ b, v1.ownBlock = some b ∧ w.heap.size ≤ b) :
    RT (w1.setCell ⟨ob, 2, none⟩ v1) base ob va v1 vo vt arcs (labs ++ [x]) order tos := by
  have hbx : w1.heap[ob]? = some (.cells #[.int .i64 0, va, vl] 28 (0, 0)) := by rw [hg.block ob (box_lt h.box) (Kd.R_ne h.rl h.box (by decide))]; exact h.box
  have eI : ∀ q ∈ 3 :: (Kd.int .i64).E, q ≠ 28 := fun q hq => by rw [int_E hq]; decide
  exact ⟨h.bo, by simp [World.setCell, Array.getElem?_modify, hbx], Kd.R_set (Kd.R_over' h.ra (Kd.R_typed h.rl) (fun q hq => by rcases arcs_E hq with h | h <;> rw [h] <;> decide) hg) hbx (fun q hq => by rcases arcs_E hq with h | h <;> rw [h] <;> decide) 2 v1,
    Kd.R_set hR hbx eI 2 v1, Kd.R_set (int_far h.ro h.ol hg) hbx eI 2 v1, Kd.R_set (int_far h.rt h.tl hg) hbx eI 2 v1, (h.ol.symm.new hat (Kd.R_lt h.ro)).symm, (h.tl.symm.new hat (Kd.R_lt h.rt)).symm, h.to_⟩
end
theorem RT.start {w : World} {base : Nat} {vo : Value} {order : List Int} (ro : (Kd.int .i64).R 3 w base (fun _ => True) vo order) (hb : base ≤ w.heap.size) :
    RT (w.alloc (.cells #[.int .i64 0, .slice none 0 0, .slice none 0 0] 28)) base w.heap.size (.slice none 0 0) (.slice none 0 0) vo (.slice none 0 0) [] [] order [] := by
  have hnb : ∀ v : Value, Dj v (.slice none 0 0) := fun v q _ h => by simp [Value.ownBlock] at h
  exact ⟨hb, heap_alloc_new w _, Kd.R_nil _ _ _ _ _, Kd.R_nil _ _ _ _ _, Kd.R_alloc ro _, Kd.R_nil _ _ _ _ _, hnb _, hnb _, (hnb _).symm⟩
theorem RT.dropT {w : World} {base ob : Nat} {va vl vo vt : Value} {arcs : List (List Arc)} {labs order tos : List Int} (h : RT w base ob va vl vo vt arcs labs order tos) : RT w base ob va vl vo (.slice none 0 0) arcs labs order [] :=
  ⟨h.bo, h.box, h.ra, h.rl, h.ro, Kd.R_nil _ _ _ _ _, h.ol, fun q hq => by simp [Value.ownBlock] at hq, fun q hq => by simp [Value.ownBlock] at hq⟩
theorem scanT_len : ∀ {l : List Int} {c e : Nat}, scanT l c = some e → e ≤ c + l.length
  | [], c, e, h => by
    injection h with h
    simp
    omega
  | x :: l, c, e, h => by
    simp only [scanT] at h
    split at h
    · have := scanT_len h
      simp only [List.length_cons]
      omega
    · split at h
      · have := scanT_len h
        simp only [List.length_cons]
        omega
      · cases h
theorem boxes2' {w wr : World} {c1 c2 : Array Value} {t1 t2 : TypeId} (hb : Below (w.heap.size + 2) ((w.alloc (.cells c1 t1)).alloc (.cells c2 t2)) wr) :
    wr.heap[w.heap.size]? = some (.cells c1 t1 (0, 0)) ∧ wr.heap[w.heap.size + 1]? = some (.cells c2 t2 (0, 0)) ∧ Below w.heap.size w wr ∧ w.heap.size + 2 ≤ wr.heap.size := by
  have hs := hb.size
  simp only [World.alloc, Array.size_push] at hs
  have e1 : ((w.alloc (.cells c1 t1)).alloc (.cells c2 t2)).heap[w.heap.size + 1]? = some (.cells c2 t2 (0, 0)) := by
    have h := heap_alloc_new (w.alloc (.cells c1 t1)) (.cells c2 t2)
    have e : (w.alloc (.cells c1 t1)).heap.size = w.heap.size + 1 := by simp
    rw [← e]
    exact h
  refine ⟨?_, ?_, (below_alloc (below_alloc (Below.refl _ _) _) _).trans (hb.mono (by omega)), by omega⟩
  · rw [hb.block _ (by omega), heap_alloc_old _ _ (by simp)]
    exact heap_alloc_new w _
  · rw [hb.block _ (by omega)]
    exact e1
set_option maxHeartbeats 8000000 in
set_option maxRecDepth 100000 in
theorem minimizeR_calls (d : Dfa) (hok : Ok d) (A1 : Option Addr) (c1 : Nat) (A2 : Option Addr) (c2 : Nat) (w : World) (hd : RdD w d A1 c1 A2 c2) (hlen : ∀ l ∈ d.arcs, l.length ≤ 4294967296) (hmax : d.arcs.flatten.length ≤ 1073741824) :
    Calls Tryd.prog 24 #[.agg #[.int .i64 d.start, .slice A1 d.arcs.length c1, .slice A2 d.labels.length c2]] w fun e w' => ∃ m B1 k1 B2 k2, e = .returned (.agg #[.int .i64 m.start, .slice B1 m.arcs.length k1, .slice B2 m.labels.length k2]) ∧ RO w' w.heap.size m B1 k1 B2 k2 ∧ MinRes d m ∧ Below w.heap.size w w' := by
  obtain ⟨m1, m2⟩ := hd.max
  have HD := Aside0.mk hd
  have HOK := Aside0.mk hok
  have HLEN := Aside0.mk hlen
  have n0 : 1 ≤ d.arcs.length := hok.pos
  have n1 : d.arcs.length ≤ 3000 := hok.lim
  have st0 := hok.st0
  have st1 : d.start < (d.arcs.length : Int) := hok.st1
  have HCA := Aside0.mk (show ∀ l ∈ d.arcs, ∀ a ∈ l, isC a.lo ∧ isC a.hi from fun l hl a ha => ⟨(okA_mem (hok.arcs l hl) a ha).1.1, (okA_mem (hok.arcs l hl) a ha).1.2.1⟩)
  clear hd hok hlen
  go_enter Tryd.func24, Tryd.ntmps24
  have hb0 : Below w.heap.size w ((w.alloc (.cells #[.int .i64 d.start, .slice A1 d.arcs.length c1, .slice A2 d.labels.length c2] 28)).alloc (.cells #[.int .i64 0, .slice none 0 0, .slice none 0 0] 28)) := below_alloc (below_alloc (Below.refl _ _) _) _
  have HB0 := Aside0.mk hb0
  clear hb0
  go_wp2_with fail
  refine (points_calls d.arcs A1 c1 _ (HD.out.below HB0.out).arcs HD.out.le1 HCA.out (by omega) HLEN.out (by omega)).mono ?_
  rintro e w1 ⟨vp, p, rfl, hRp, hPt, hpl, hb1⟩
  have hb1' : Below (w.heap.size + 2) ((w.alloc (.cells #[.int .i64 d.start, .slice A1 d.arcs.length c1, .slice A2 d.labels.length c2] 28)).alloc (.cells #[.int .i64 0, .slice none 0 0, .slice none 0 0] 28)) w1 := by
    have e : ((w.alloc (.cells #[.int .i64 d.start, .slice A1 d.arcs.length c1, .slice A2 d.labels.length c2] 28)).alloc (.cells #[.int .i64 0, .slice none 0 0, .slice none 0 0] 28)).heap.size = w.heap.size + 2 := by simp
    rwa [e] at hb1
  obtain ⟨Ap, cp, rfl⟩ := Kd.R_slice hRp
  have hCp := (Kd.R_reads' hRp).2.2
  obtain ⟨bx1, bx2, hbw1, hs1⟩ := boxes2' hb1'
  obtain ⟨x0, x1, x2⟩ := put3_cells bx1
  have HPT := Aside0.mk hPt
  have HCP := Aside0.mk hCp
  have HB1 := Aside0.mk hb1'
  have HDW1 := Aside0.mk (HD.out.below hbw1)
  have hpmax : p.length ≤ 4294967296 := by omega
  clear hRp hPt hCp hb1 hb1' bx1 bx2 hbw1
  go_wp2_with fail
  refine (classesR_calls d HOK.out A1 c1 A2 c2 Ap cp p _ HDW1.out HCP.out HPT.out).mono ?_
  rintro e W2 ⟨vc, out, rfl, hRc, hCO, hb2⟩
  have hb2' := HB1.out.trans (hb2.mono hs1)
  obtain ⟨bx1, bx2, hbw2, hs2⟩ := boxes2' hb2'
  obtain ⟨x0, x1, x2⟩ := put3_cells bx1
  have hol := hCO.len
  obtain ⟨Ac, cc, rfl⟩ := Kd.R_slice hRc
  have hCc := (Kd.R_reads' hRc).2.2
  rw [show out.length = d.arcs.length + 1 from hol] at hCc ⊢
  have HCO := Aside0.mk hCO
  have HCC := Aside0.mk hCc
  have HCP2 := Aside0.mk (Kd.C_below HCP.out hb2)
  have HDW2 := Aside0.mk (HD.out.below hbw2)
  have HB2 := Aside0.mk hb2'
  have HOL := Aside0.mk hol
  have HBX2 := Aside0.mk bx2
  obtain ⟨qd, od, e, hqd, hcd⟩ := at_num hCc d.arcs.length (by omega)
  cases e
  obtain ⟨qs, os, e, hqs, hcs⟩ := at_num hCc d.start.toNat (by omega)
  cases e
  obtain ⟨dead, hdead⟩ : ∃ dead, dead = out.getD d.arcs.length 0 := ⟨_, rfl⟩
  obtain ⟨cst, hcst⟩ : ∃ cst, cst = out.getD d.start.toNat 0 := ⟨_, rfl⟩
  rw [← hdead] at hcd
  rw [← hcst] at hcs
  have HDEAD := Aside0.mk hdead
  have HCST := Aside0.mk hcst
  clear hRc hCO hCc hb2 hb2' bx1 bx2 hbw2 hol hdead hcst HB1 HDW1 HB0
  go_wp2_with (refine Kd.R_lit (Kd.int .i64) (w0 := W2) W2.heap.size 3 ?hg (N := 35) ?hd (xs := [cst]) (inner := [.int .i64 cst]) (ok := fun _ => True) (okp := fun _ => True) ?hr ?hp (fun _ hk => hk) trivial (Below.refl _ _) (Nat.le_refl _) (by simp) ?_; (case hd => rfl); (case hg => rfl); (case hr => first | (go_simp; done) | (go_simp; rfl)); (case hp => exact (Reps.one (show Kd.M (Kd.int .i64) _ _ _ cst [.int .i64 cst] from rfl) (Reps.none _ _))); intro vo w3 hR hB hg hnew; have HRO := Aside0.mk hR; have HB3 := Aside0.mk hB; clear hg hnew hR hB)
  have hw3 : W2.heap.size ≤ w3.heap.size := HB3.out.size
  have HST := Aside0.mk (RT.start HRO.out hw3)
  have HMM0 := Aside0.mk (mm_start HOK.out HCO.out)
  have hdn : d.n = d.arcs.length := rfl
  have HB3' := Aside0.mk (HB3.out.alloc hw3 (.cells #[.int .i64 0, .slice none 0 0, .slice none 0 0] 28))
  have hob : w.heap.size + 2 ≤ w3.heap.size := by omega
  have lb0 : w.heap.size < W2.heap.size := by omega
  clear hdn
  go_wp2
  go_loopw [7, 9] (fun vo iv wr => ∃ at_ : Nat, iv = .int .i64 at_ ∧ Aside0 (∃ arcs labs order va vl, RT wr W2.heap.size w3.heap.size va vl vo (.slice none 0 0) arcs labs order [] ∧ MM d (Rof d out) out arcs labs order ∧ arcs.length = at_) ∧ Aside0 (Below W2.heap.size W2 wr)) (fun _ iv _ => d.arcs.length + 2 - (intOf iv).toNat)
  case atStart => exact ⟨0, rfl, ⟨[], [], [cst], _, _, HST.out, by rw [HCST.out]; exact HMM0.out, rfl⟩, HB3'⟩
  case round =>
    obtain ⟨at_, rfl, HQ, HB⟩ := hrel
    obtain ⟨arcs, labs, order, va, vl, hRT, hMM, rfl⟩ := HQ.out
    obtain ⟨hle, hll, holn⟩ := mm_le HOK.out HCO.out hMM
    have HLL := Aside0.mk hll
    clear hll
    have hwr : W2.heap.size ≤ wr.heap.size := HB.out.size
    have hdn : d.n = d.arcs.length := rfl
    rw [hdn] at holn
    have y0 := (HB.out.cell (p := ⟨w.heap.size, 0, none⟩) lb0).trans x0
    have y1 := (HB.out.cell (p := ⟨w.heap.size, 1, none⟩) lb0).trans x1
    have y2 := (HB.out.cell (p := ⟨w.heap.size, 2, none⟩) lb0).trans x2
    have HRT := Aside0.mk hRT
    have HMM := Aside0.mk hMM
    clear hRT hMM HQ hdn
    by_cases hlt : arcs.length < order.length
    · obtain ⟨go, co, rfl, hgo0, hgo1, _⟩ := Kd.R_form HRT.out.ro (by omega)
      obtain ⟨z1, _⟩ := Kd.R_celln 0 HRT.out.ro (arcs.length : Int) (by omega) (by omega)
      rw [Int.toNat_natCast] at z1
      have hso : order[arcs.length]? = some (order.getD arcs.length 0) := by rw [List.getD_eq_getElem?_getD, List.getElem?_eq_getElem hlt]; rfl
      have er : rdOf 0 order (arcs.length : Int) = order.getD arcs.length 0 := by unfold rdOf; rw [Int.toNat_natCast]
      rw [er] at z1
      obtain ⟨r, hr, hrn, hnd, -, -, -⟩ := mm_at HOK.out HCO.out HMM.out hso
      rw [hr] at z1 hso
      have HSO := Aside0.mk hso
      have HND := Aside0.mk hnd
      have hrn' : r ≤ d.arcs.length := hrn
      have hai : (arcs.length : Int) < (order.length : Int) := by omega
      clear hso er hr hnd hrn
      go_wp2_with (refine Kd.R_lit (Kd.int .i64) (w0 := wr) wr.heap.size 3 ?hg (N := 47) ?hd (xs := ([] : List Int)) (inner := []) (ok := fun _ => True) (okp := fun _ => True) ?hr ?hp (fun _ hk => hk) trivial (Below.refl _ _) (Nat.le_refl _) (by simp) ?_; (case hd => rfl); (case hg => rfl); (case hr => first | (go_simp; done) | (go_simp; rfl)); (case hp => exact (Reps.none _ _)); intro vt w4 hR hB hg hnew; have HRT4 := Aside0.mk (HRT.out.newT hB hR hwr); have HB4 := Aside0.mk (HB.out.trans (hB.mono hwr)); clear hg hnew hR hB)
      go_loopw [7, 11, 12] (fun vo vt kv wr => ∃ k : Nat, k ≤ p.length ∧ kv = .int .i64 k ∧ Aside0 (∃ order' tos, RT wr W2.heap.size w3.heap.size va vl vo vt arcs labs order' tos ∧ TInv d (Rof d out) p r order k tos order') ∧ Aside0 (Below W2.heap.size W2 wr)) (fun _ _ kv _ => p.length - (intOf kv).toNat)
      case atStart => exact ⟨0, by omega, rfl, ⟨order, [], HRT4.out, tInv_start HND.out⟩, HB4⟩
      case round =>
        obtain ⟨k, hk, rfl, HQ, HB⟩ := hrel
        obtain ⟨order', tos, hRT, hTI⟩ := HQ.out
        have HRT := Aside0.mk hRT
        have HTI := Aside0.mk hTI
        have HTL := Aside0.mk hTI.len
        have hwr : W2.heap.size ≤ wr.heap.size := HB.out.size
        have y0 := (HB.out.cell (p := ⟨w.heap.size, 0, none⟩) lb0).trans x0
        have y1 := (HB.out.cell (p := ⟨w.heap.size, 1, none⟩) lb0).trans x1
        have y2 := (HB.out.cell (p := ⟨w.heap.size, 2, none⟩) lb0).trans x2
        clear hRT hTI HQ z1
        by_cases hkl : k < p.length
        · obtain ⟨qp, op, e, hqp, hpx⟩ := at_num (Kd.C_below HCP2.out HB.out) k hkl
          cases e
          have hpk : p[k]? = some (p.getD k 0) := by rw [List.getD_eq_getElem?_getD, List.getElem?_eq_getElem hkl]; rfl
          obtain ⟨x, hx⟩ : ∃ x, x = p.getD k 0 := ⟨_, rfl⟩
          rw [← hx] at hpx hpk
          have HPK := Aside0.mk hpk
          have hki : (k : Int) < (p.length : Int) := by omega
          clear hx hpk
          obtain ⟨T, hT⟩ : ∃ T, T = (stp (d.arc r) x).getD (-1) := ⟨_, rfl⟩
          have HTT := Aside0.mk hT
          clear hT
          go_upto_if 56 with (fail)
          go_cut [13] (fun v wc => v = .int .i64 T ∧ Aside0 (Below wr.heap.size wr wc))
          case first =>
            by_cases hrl : r < d.arcs.length
            · have hrb : decide ((r : Int) < (d.arcs.length : Int)) = true := decide_eq_true (by omega)
              have hbd : Below wr.heap.size wr wr.drew := below_drew (Below.refl _ _)
              have hbb := HB.out.trans (hbd.mono hwr)
              have HDW := Aside0.mk ((HDW2.out.below HB.out).below hbd)
              have y0 := cell_later hbd y0
              have y1 := cell_later hbd y1
              have y2 := cell_later hbd y2
              have hpx := cell_later hbd hpx
              have z0 : Below wr.drew.heap.size wr.drew wr.drew := Below.refl _ _
              clear hbd hbb
              go_wp2_with fail
              go_region_held3 (fun w' => Below wr.drew.heap.size wr.drew w' ∧ (w'.cell? ⟨w.heap.size, 0, none⟩ = some (.int .i64 d.start) ∧ w'.cell? ⟨w.heap.size, 1, none⟩ = some (.slice A1 d.arcs.length c1) ∧ w'.cell? ⟨w.heap.size, 2, none⟩ = some (.slice A2 d.labels.length c2)) ∧ w'.cell? ⟨qp, op + k, none⟩ = some (.int .i32 x))
                (first | exact ⟨z0, ⟨y0, y1, y2⟩, hpx⟩)
                (first
                  | (go_at_call 44; refine (stepR_calls d A1 c1 A2 c2 r x _ (HDW.out.below z0) hrl).mono ?_; rintro e wq ⟨rfl, hbq⟩; rw [← HTT.out]; have y0 := cell_later hbq y0; have y1 := cell_later hbq y1; have y2 := cell_later hbq y2; have hpx := cell_later hbq hpx; have z0 := below_next z0 hbq))
              all_goals
                go_wp2
                go_meet
                case rel => exact ⟨rfl, ⟨below_next (below_drew (Below.refl _ _)) z0⟩⟩
            · have hrb : decide ((r : Int) < (d.arcs.length : Int)) = false := decide_eq_false (by omega)
              have HF := Aside0.mk (show T = -1 from by
                rw [HTT.out]
                have hre : r = d.n := by show r = d.arcs.length; omega
                rw [hre, arc_out]
                rfl)
              go_wp2
              go_meet
              case rel => exact ⟨(by rw [HF.out] <;> rfl), ⟨Below.refl _ _⟩⟩
          case rest =>
            obtain ⟨rfl, HBC⟩ := hcut
            rename World => W4
            have HRT4 := Aside0.mk (HRT.out.later HBC.out)
            have HB4 := Aside0.mk (HB.out.trans (HBC.out.mono hwr))
            have hw4 : W2.heap.size ≤ W4.heap.size := HB4.out.size
            obtain ⟨At, ct, hvt⟩ := Kd.R_slice HRT4.out.rt
            subst hvt
            clear y0 y1 y2 hpx
            by_cases hnone : clS d (Rof d out) r x = none
            ·
              have HN := Aside0.mk (HTI.out.none HPK.out hnone)
              have hcase : T = -1 ∨ ∃ m : Nat, T = m ∧ m < d.arcs.length ∧ out.getD m 0 = dead := by
                unfold clS at hnone
                cases hst : stp (d.arc r) x with
                | none => left; rw [HTT.out, hst]; rfl
                | some t =>
                  obtain ⟨m, rfl, hm⟩ := stp_in HOK.out hst
                  rw [hst, Option.bind_some] at hnone
                  refine .inr ⟨m, by rw [HTT.out, hst]; rfl, hm, ?_⟩
                  rcases Classical.em (out.getD m 0 = dead) with h | h
                  · exact h
                  · exfalso
                    obtain ⟨q, _, q2, _⟩ := HCO.out.at_ m (Nat.le_of_lt hm)
                    have h1 : cl (Rof d out) m = (q : Int) := by
                      rw [rof_at out hm, if_neg (fun he => h (by rw [he, show dead = out.getD d.n 0 from HDEAD.out])), getD_of q2]
                    unfold via at hnone
                    rw [h1, if_neg (by omega)] at hnone
                    cases hnone
              clear hnone
              go_upto_region 18 with (fail)
              go_cut [73] (fun v wc => v = .bool true ∧ W4 = wc)
              case first =>
                rcases hcase with hT | ⟨m, hT, hm, hcm⟩
                · have tb : decide (T < 0) = true := decide_eq_true (by omega)
                  go_wp2
                  go_meet
                  case rel => exact ⟨rfl, rfl⟩
                · subst hT
                  have tb : decide ((m : Int) < 0) = false := decide_eq_false (by omega)
                  obtain ⟨q9, o9, e, _, hc9⟩ := at_num (Kd.C_below HCC.out HB4.out) m (by omega)
                  cases e
                  rw [hcm] at hc9
                  have hmi : (m : Int) < (d.arcs.length : Int) + 1 := by omega
                  have ddb : (dead == dead) = true := beq_self_eq_true dead
                  clear hcm
                  go_wp2
                  go_meet
                  case rel => exact ⟨rfl, rfl⟩
              case rest =>
                obtain ⟨rfl, rfl⟩ := hcut
                clear hcase
                go_wp2_with (at_builtin; refine Kd.R_append (Kd.int .i64) (w0 := W2) W2.heap.size rfl _ _ 26 3 (.int .i64 0) 8 rfl Tryd.underlying26 infoInt rfl (by decide) (by omega) (.slice At tos.length ct) tos (-1) [.int .i64 (-1)] (fun _ => True) (fun _ => False) rfl (by first | (go_simp; done) | (go_simp; rfl)) rfl (fun _ hk => hk.elim) (fun _ _ => trivial) ?aO ?aB ?aS ?aL ?_; (case aO => exact HRT4.out.rt); (case aB => exact HB4.out); (case aS => omega); (case aL => have := HTL.out; omega); intro v8 w8 hR hB hg hat; have HRT8 := Aside0.mk (HRT4.out.appT hR hg hat); have HB8 := Aside0.mk hB; clear hR hB hg hat)
                go_roundw
                case rel => exact ⟨k + 1, by omega, by go_num, ⟨order', tos ++ [-1], HRT8.out, HN.out⟩, HB8⟩
                case measure => simp [intOf]; omega
            ·
              obtain ⟨c, hc⟩ := Option.ne_none_iff_exists'.1 hnone
              have hm : ∃ m : Nat, T = m ∧ m < d.arcs.length ∧ out.getD m 0 = c ∧ c ≠ dead ∧ Live d m ∧ cl (Rof d out) m = c := by
                unfold clS at hc
                cases hst : stp (d.arc r) x with
                | none => rw [hst] at hc; cases hc
                | some t =>
                  obtain ⟨m, rfl, hm⟩ := stp_in HOK.out hst
                  rw [hst, Option.bind_some] at hc
                  unfold via at hc
                  split at hc
                  · cases hc
                  · rename_i hne
                    injection hc with hc
                    have h1 := rof_at out hm
                    have hnd : ¬ out.getD m 0 = out.getD d.n 0 := fun he => hne (by rw [h1, if_pos he])
                    rw [if_neg hnd] at h1
                    refine ⟨m, by rw [HTT.out, hst]; rfl, hm, by rw [← h1]; exact hc, ?_, ?_, hc⟩
                    · rw [← hc, h1, show dead = out.getD d.n 0 from HDEAD.out]
                      exact hnd
                    · rcases Classical.em (Live d m) with h | h
                      · exact h
                      · exact absurd ((rof_dead HOK.out HCO.out (Nat.le_of_lt hm)).2 h) hnd
              obtain ⟨m, hT, hmn, hcm, hcd, hlv, hclm⟩ := hm
              have HT2 := Aside0.mk hT
              subst hT
              have HC := Aside0.mk hc
              have HU := Aside0.mk (show ∃ u : Nat, u < d.n ∧ Live d u ∧ cl (Rof d out) u = c from ⟨m, hmn, hlv, hclm⟩)
              have tb : decide ((m : Int) < 0) = false := decide_eq_false (by omega)
              obtain ⟨q9, o9, e, _, hc9⟩ := at_num (Kd.C_below HCC.out HB4.out) m (by omega)
              cases e
              rw [hcm] at hc9
              have HC9 := Aside0.mk (fun w' (hb : Below W2.heap.size W2 w') => (show w'.cell? ⟨qd, od + m, none⟩ = some (.int .i64 c) from by
                obtain ⟨q8, o8, e8, _, hc8⟩ := at_num (Kd.C_below HCC.out hb) m (by omega)
                cases e8
                rw [hcm] at hc8
                exact hc8))
              have hmi : (m : Int) < (d.arcs.length : Int) + 1 := by omega
              have cdb : (c == dead) = false := beq_eq_false_iff_ne.2 hcd
              obtain ⟨Ao2, co2, hvo⟩ := Kd.R_slice HRT4.out.ro
              subst hvo
              have hom : order'.length ≤ 9223372036854775807 := (Kd.R_reads' HRT4.out.ro).2.2.2.1
              have hordl : order'.length ≤ 4294970300 := by
                have h1 := scanT_len HTI.out.scan
                have h2 := HTL.out
                omega
              clear hnone hc hcm hcd hlv hclm
              go_wp2
              go_loopw [14, 15] (fun pv iv wr => ∃ (i : Nat) (pl : Int), i ≤ order'.length ∧ iv = .int .i64 i ∧ pv = .int .i64 pl ∧ Aside0 ((pl = -1 ∧ c ∉ order'.take i) ∨ ∃ q : Nat, q < i ∧ pl = q ∧ order'[q]? = some c) ∧ Aside0 (Below W4.heap.size W4 wr)) (fun _ iv _ => order'.length - (intOf iv).toNat)
              case atStart => exact ⟨0, -1, by omega, rfl, rfl, ⟨.inl ⟨rfl, by simp⟩⟩, ⟨Below.refl _ _⟩⟩
              case round =>
                obtain ⟨i, pl, hi, rfl, rfl, HPL, HB5⟩ := hrel
                have hb5 := HB4.out.trans (HB5.out.mono hw4)
                have HB5' := Aside0.mk hb5
                have HRT5 := Aside0.mk (HRT4.out.later HB5.out)
                have hw5 : W2.heap.size ≤ wr.heap.size := hb5.size
                have hc5 := HC9.out wr hb5
                clear hb5 hc9
                by_cases hil : i < order'.length
                · obtain ⟨g5, cap5, e5, hg50, hg51, _⟩ := Kd.R_form HRT5.out.ro (by omega)
                  cases e5
                  obtain ⟨z5, _⟩ := Kd.R_celln 0 HRT5.out.ro (i : Int) (by omega) (by omega)
                  rw [Int.toNat_natCast] at z5
                  have er : rdOf 0 order' (i : Int) = order'.getD i 0 := by unfold rdOf; rw [Int.toNat_natCast]
                  rw [er] at z5
                  have hoi : order'[i]? = some (order'.getD i 0) := by rw [List.getD_eq_getElem?_getD, List.getElem?_eq_getElem hil]; rfl
                  have htk := take_next (0 : Int) hil
                  obtain ⟨ov, hov⟩ : ∃ ov, ov = order'.getD i 0 := ⟨_, rfl⟩
                  rw [← hov] at z5 hoi htk
                  have hii : (i : Int) < (order'.length : Int) := by omega
                  clear er hov
                  by_cases hoc : ov = c
                  · have ocb : (ov == c) = true := beq_iff_eq.2 hoc
                    have HN := Aside0.mk (show ((i : Int) = -1 ∧ c ∉ order'.take (i + 1)) ∨ ∃ q : Nat, q < i + 1 ∧ (i : Int) = q ∧ order'[q]? = some c from .inr ⟨i, by omega, rfl, by rw [hoi, hoc]⟩)
                    clear hoc hoi htk
                    go_wp2_with fail
                    go_quiet (fail)
                    go_wp2
                    go_roundw
                    case rel => exact ⟨i + 1, i, by omega, by go_num, rfl, HN, ⟨pw_below_drewN HB5.out _⟩⟩
                    case measure => simp [intOf]; omega
                  · have ocb : (ov == c) = false := beq_eq_false_iff_ne.2 hoc
                    have HN := Aside0.mk (show (pl = -1 ∧ c ∉ order'.take (i + 1)) ∨ ∃ q : Nat, q < i + 1 ∧ pl = q ∧ order'[q]? = some c from by
                      rcases HPL.out with ⟨h1, h2⟩ | ⟨q, h1, h2, h3⟩
                      · refine .inl ⟨h1, fun hh => ?_⟩
                        rw [htk] at hh
                        rcases List.mem_append.1 hh with hh | hh
                        · exact h2 hh
                        · exact hoc (List.mem_singleton.1 hh).symm
                      · exact .inr ⟨q, by omega, h2, h3⟩)
                    clear hoc hoi htk
                    go_wp2_with fail
                    go_quiet (fail)
                    go_wp2
                    go_roundw
                    case rel => exact ⟨i + 1, pl, by omega, by go_num, rfl, HN, ⟨pw_below_drewN HB5.out _⟩⟩
                    case measure => simp [intOf]; omega
                · obtain rfl : i = order'.length := by omega
                  have hpl := HPL.out
                  rw [List.take_length] at hpl
                  rcases hpl with ⟨rfl, hnc⟩ | ⟨q, hq, rfl, hqc⟩
                  · have HN := Aside0.mk (HTI.out.miss HPK.out HC.out hnc HU.out)
                    clear hnc
                    go_wp2_with (first
                      | (at_builtin; refine Kd.R_append (Kd.int .i64) (w0 := W2) W2.heap.size rfl _ _ 26 3 (.int .i64 0) 8 rfl Tryd.underlying26 infoInt rfl (by decide) (by omega) (.slice Ao2 order'.length co2) order' c [.int .i64 c] (fun _ => True) (fun _ => False) rfl (by first | (go_simp; done) | (go_simp; rfl)) rfl (fun _ hk => hk.elim) (fun _ _ => trivial) ?aO ?aB ?aS ?aL ?_; (case aO => exact HRT5.out.ro); (case aB => exact HB5'.out); (case aS => omega); (case aL => omega); intro v8 w8 hR hB hg hat; have HRT8 := Aside0.mk (HRT5.out.appO hR hg hat); have HB8 := Aside0.mk hB; have hw8 := hB.size; clear hR hB hg hat)
                      | (at_builtin; refine Kd.R_append (Kd.int .i64) (w0 := W2) W2.heap.size rfl _ _ 26 3 (.int .i64 0) 8 rfl Tryd.underlying26 infoInt rfl (by decide) (by omega) (.slice At tos.length ct) tos (order'.length : Int) [.int .i64 order'.length] (fun _ => True) (fun _ => False) rfl (by first | (go_simp; done) | (go_simp; rfl)) rfl (fun _ hk => hk.elim) (fun _ _ => trivial) ?aO ?aB ?aS ?aL ?_; (case aO => exact HRT8.out.rt); (case aB => exact HB8.out); (case aS => omega); (case aL => have := HTL.out; omega); intro v9 w9 hR hB hg hat; have HRT9 := Aside0.mk (HRT8.out.appT hR hg hat); have HB9 := Aside0.mk hB; clear hR hB hg hat))
                    go_roundw
                    case rel => exact ⟨k + 1, by omega, by go_num, ⟨order' ++ [c], tos ++ [(order'.length : Int)], HRT9.out, HN.out⟩, HB9⟩
                    case measure => simp [intOf]; omega
                  · have HN := Aside0.mk (HTI.out.hit HPK.out HC.out hqc)
                    have qb : decide ((q : Int) < 0) = false := decide_eq_false (by omega)
                    clear hqc
                    go_wp2_with (first
                      | (at_builtin; refine Kd.R_append (Kd.int .i64) (w0 := W2) W2.heap.size rfl _ _ 26 3 (.int .i64 0) 8 rfl Tryd.underlying26 infoInt rfl (by decide) (by omega) (.slice At tos.length ct) tos (q : Int) [.int .i64 q] (fun _ => True) (fun _ => False) rfl (by first | (go_simp; done) | (go_simp; rfl)) rfl (fun _ hk => hk.elim) (fun _ _ => trivial) ?aO ?aB ?aS ?aL ?_; (case aO => exact HRT5.out.rt); (case aB => exact HB5'.out); (case aS => omega); (case aL => have := HTL.out; omega); intro v9 w9 hR hB hg hat; have HRT9 := Aside0.mk (HRT5.out.appT hR hg hat); have HB9 := Aside0.mk hB; clear hR hB hg hat))
                    go_roundw
                    case rel => exact ⟨k + 1, by omega, by go_num, ⟨order', tos ++ [(q : Int)], HRT9.out, HN.out⟩, HB9⟩
                    case measure => simp [intOf]; omega
        · obtain rfl : k = p.length := by omega
          obtain ⟨At, ct, hvt⟩ := Kd.R_slice HRT.out.rt
          subst hvt
          rw [HTL.out]
          have hCt := (Kd.R_reads' HRT.out.rt).2.2
          rw [HTL.out] at hCt
          have HCT := Aside0.mk hCt
          have hva := Kd.R_slice HRT.out.ra
          obtain ⟨Aa, ca, hva⟩ := hva
          subst hva
          have HAL : Aside0 (arcs.length ≤ 100000) := ⟨by omega⟩
          have hbd : Below wr.heap.size wr wr.drew := below_drew (Below.refl _ _)
          have HRTD := Aside0.mk (HRT.out.later hbd)
          have HBD := Aside0.mk (HB.out.trans (hbd.mono hwr))
          obtain ⟨t0, t1, t2⟩ := put3_cells HRTD.out.box
          have f1 := blk_frozen HRTD.out.box 1
          have hcall := merged_calls d.arcs order'.length Ap cp At ct p tos wr.drew (Kd.C_below HCP2.out HBD.out) (Kd.C_below HCT.out hbd) HPT.out HTL.out HTI.out.lt hpmax
          have HCALL := Aside0.mk hcall
          clear hCt hbd y0 y1 y2 hcall
          go_wp2_with fail
          refine start_ (n := 9) (S := fun w' => w'.cell? ⟨w3.heap.size, 1, none⟩ = some (.slice Aa arcs.length ca)) (ds := [8]) #[false, false, false, false, false, false, false, false, false] (by kernel_rfl) rfl rfl (t1) (fun hHeld => ?_)
          refine pure_ (i := 0) (N := some 108) (v := ?_) (a' := ?_) #[true, false, false, false, false, false, false, false, false] rfl rfl (by kernel_rfl) (fun _ _ _ h => h) (Or.inl ⟨by rfl, ?_⟩) ?_ ?_
          rotate_left
          · intro w'
            go_simp
            with_reducible rfl
          rotate_left
          · simp only [Act.put, List.setIfInBounds_toArray, List.set_cons_zero, List.set_cons_succ, i64_w, i32_w]
            rfl
          refine pure_ (i := 2) (N := some 110) (v := ?_) (a' := ?_) #[true, false, true, false, false, false, false, false, false] rfl rfl (by kernel_rfl) (fun _ _ _ h => h) (Or.inl ⟨by rfl, ?_⟩) ?_ ?_
          rotate_left
          · intro w'
            go_simp
            with_reducible rfl
          rotate_left
          · simp only [Act.put, List.setIfInBounds_toArray, List.set_cons_zero, List.set_cons_succ, i64_w, i32_w]
            rfl
          refine pure_ (i := 3) (N := some 111) (v := ?_) (a' := ?_) #[true, false, true, true, false, false, false, false, false] rfl rfl (by kernel_rfl) (fun _ _ _ h => h) (Or.inl ⟨by rfl, ?_⟩) ?_ ?_
          rotate_left
          · intro w'
            go_simp
            with_reducible rfl
          rotate_left
          · simp only [Act.put, List.setIfInBounds_toArray, List.set_cons_zero, List.set_cons_succ, i64_w, i32_w]
            rfl
          refine take_ (i := 1) (N := some 109) (v := ?_) (a' := ?_) #[true, true, true, true, false, false, false, false, false] rfl rfl (by kernel_rfl) (fun _ _ _ h => h) (Or.inl ⟨by rfl, ?_⟩) hHeld ?_ ?_
          rotate_left
          · intro w' s0
            go_simp
            with_reducible rfl
          rotate_left
          · simp only [Act.put, List.setIfInBounds_toArray, List.set_cons_zero, List.set_cons_succ, i64_w, i32_w]
            rfl
          refine one_ (i := 4) (N := some 112) #[true, true, true, true, true, false, false, false, false] rfl rfl (by kernel_rfl) (by decide) (fun K hK => ?_)
          refine goes_ Tryd.func38 (by kernel_rfl) rfl #[.slice Ap p.length cp, .slice At p.length ct] (by rfl) rfl rfl (by simp only [List.map_toArray, List.map_cons, List.map_nil]; rfl) ?_
          with_reducible refine (HCALL.out).mono ?_
          rintro e w5 ⟨vr, row, rfl, hRow, hRw, hb5⟩
          refine ⟨_, rfl, ?_⟩
          obtain ⟨AR, cR, rfl⟩ := Kd.R_slice hRow
          have HRW := Aside0.mk hRw
          have hwd : W2.heap.size ≤ wr.drew.heap.size := hwr
          have HROW := Aside0.mk (Kd.R_tight rfl (Kd.R_lower hRow hwd))
          have HRT5 := Aside0.mk (HRTD.out.later hb5)
          have z0 := HBD.out.trans (hb5.mono hwd)
          have HOKA : Aside0 (∀ k, some k = (Value.slice AR row.length cR).ownBlock → True ∧ some k ≠ (Value.slice Aa arcs.length ca).ownBlock) := ⟨fun k hk => (by obtain ⟨cells, hc⟩ := Kd.R_typed HROW.out k hk.symm; exact ⟨trivial, Kd.R_ne HRT5.out.ra hc (by decide)⟩)⟩
          have hws := z0.size
          have t1 := (put3_cells HRT5.out.box).2.1
          clear hRow hRw hb5 hwd
          refine hK.out _ _ (t1) (fun hHeld => ?_)
          clear hK K
          refine norm_ (a' := ?_) ?_ ?_
          rotate_left
          · show Act.put _ (some 112) _ = _
            simp only [Act.put, List.setIfInBounds_toArray, List.set_cons_zero, List.set_cons_succ, i64_w, i32_w]
            rfl
          refine one_ (i := 5) (N := some 113) #[true, true, true, true, true, true, false, false, false] rfl rfl (by kernel_rfl) (by decide) (fun K hK => ?_)
          refine value_ (w1 := ?_) (v := ?_) (by rfl) rfl ?_ ?_
          rotate_left 2
          · go_simp
            constructor
            · rfl
            · rfl
          have t1 := cell_later (below_alloc (Below.refl _ _) (.cells #[.slice AR row.length cR] 50)) t1
          refine hK.out _ _ (t1) (fun hHeld => ?_)
          clear hK K
          refine norm_ (a' := ?_) ?_ ?_
          rotate_left
          · show Act.put _ (some 113) _ = _
            simp only [Act.put, List.setIfInBounds_toArray, List.set_cons_zero, List.set_cons_succ, i64_w, i32_w]
            rfl
          refine one_ (i := 6) (N := some 114) #[true, true, true, true, true, true, true, false, false] rfl rfl (by kernel_rfl) (by decide) (fun K hK => ?_)
          refine Kd.R_append_step kArcs (w0 := W2) W2.heap.size (by rfl) _ _ 25 50 (.slice none 0 0) 24 (by rfl) Tryd.underlying25 infoArcs rfl (by decide) (by decide) (.slice Aa arcs.length ca) arcs row [.slice AR row.length cR] (fun _ => True) (fun q => some q = (Value.slice AR row.length cR).ownBlock) (by rfl) (by rfl) ⟨_, rfl, HROW.out⟩ HOKA.out (fun _ _ => trivial) ?aO ?aB ?aS ?aL ?_
          case aO => exact HRT5.out.ra
          case aB => exact z0
          case aS => omega
          case aL => have := HAL.out; omega
          intro v6 w6 hR hB hg hat
          obtain ⟨A6, c6, h6⟩ := Kd.R_slice hR
          rw [show (arcs ++ [row]).length = arcs.length + 1 from by simp] at h6
          subst h6
          have HRT6 := Aside0.mk (HRT5.out.appA (row := row) (u := .slice A6 (arcs ++ [row]).length c6) hR hg)
          have HB6 := Aside0.mk (hB.setCell (p := ⟨w3.heap.size, 1, none⟩) hw3 (.slice A6 (arcs.length + 1) c6))
          have hbx6 := (hg.block _ (box_lt HRT5.out.box) (Kd.R_ne HRT5.out.ra HRT5.out.box (by decide))).trans HRT5.out.box
          have t1 := (put3_cells hbx6).2.1
          have f1 := blk_frozen hbx6 1
          clear hR hB hg hat
          refine hK.out _ _ (t1) (fun hHeld => ?_)
          clear hK K
          refine norm_ (a' := ?_) ?_ ?_
          rotate_left
          · show Act.put _ (some 114) _ = _
            simp only [Act.put, List.setIfInBounds_toArray, List.set_cons_zero, List.set_cons_succ, i64_w, i32_w]
            rfl
          refine pure_ (i := 7) (N := some 115) (v := ?_) (a' := ?_) #[true, true, true, true, true, true, true, true, false] rfl rfl (by kernel_rfl) (fun _ _ _ h => h) (Or.inl ⟨by rfl, ?_⟩) ?_ ?_
          rotate_left
          · intro w'
            go_simp
            with_reducible rfl
          rotate_left
          · simp only [Act.put, List.setIfInBounds_toArray, List.set_cons_zero, List.set_cons_succ, i64_w, i32_w]
            rfl
          refine last_ (i := 8) (N := none) #[true, true, true, true, true, true, true, true, true] rfl rfl (by kernel_rfl) (by decide) (fun K hK => ?_)
          refine skip_ (w1 := ?_) (by rfl) rfl ?_ ?_
          rotate_left
          · go_simp
            rfl
          refine hK.out _ _ ?_
          clear hK K
          refine done_ (by kernel_rfl) ?_
          have HRT7 := HRT6.out
          have hb7 := HB6.out
          generalize hW7 : w6.setCell ⟨w3.heap.size, 1, none⟩ (.slice A6 (arcs.length + 1) c6) = W7 at HRT7 hb7 ⊢
          have HR7 := Aside0.mk HRT7
          have HB7 := Aside0.mk hb7
          have HMN := Aside0.mk (mm_row HOK.out HCO.out HPT.out HMM.out HSO.out HTI.out HRW.out)
          have y1 := (hb7.cell (p := ⟨w.heap.size, 1, none⟩) lb0).trans x1
          have y2 := (hb7.cell (p := ⟨w.heap.size, 2, none⟩) lb0).trans x2
          have hw7 : W2.heap.size ≤ W7.heap.size := hb7.size
          obtain ⟨Al, cl0, hvl⟩ := Kd.R_slice HRT7.rl
          subst hvl
          obtain ⟨y, hy⟩ : ∃ y, y = d.lab (r : Int) := ⟨_, rfl⟩
          have HY := Aside0.mk hy
          clear hW7 HRT7 hb7 HRT6 HB6 t0 t1 t2 f1 hy hHeld
          go_upto_if 118 with (fail)
          go_cut [16] (fun v wc => v = .int .i64 y ∧ W7 = wc)
          case first =>
            by_cases hrl : r < d.arcs.length
            · have hrb : decide ((r : Int) < (d.arcs.length : Int)) = true := decide_eq_true (by omega)
              obtain ⟨q8, o8, e, _, hc8⟩ := at_num (HDW2.out.below HB7.out).labs r (by rw [HOK.out.len]; exact hrl)
              cases e
              rw [lab_atR HOK.out hrl, ← HY.out] at hc8
              have hri : (r : Int) < (d.labels.length : Int) := by rw [HOK.out.len]; unfold Dfa.n; omega
              go_wp2
              go_meet
              case rel => exact ⟨rfl, rfl⟩
            · have hrb : decide ((r : Int) < (d.arcs.length : Int)) = false := decide_eq_false (by omega)
              have HF := Aside0.mk (show y = -1 from by
                rw [HY.out]
                have hre : r = d.n := by show r = d.arcs.length; omega
                rw [hre, lab_out HOK.out])
              go_wp2
              go_meet
              case rel => exact ⟨(by rw [HF.out] <;> rfl), rfl⟩
          case rest =>
            obtain ⟨rfl, rfl⟩ := hcut
            obtain ⟨t0, t1, t2⟩ := put3_cells HR7.out.box
            clear y1 y2
            go_wp2_with (at_builtin; refine Kd.R_append (Kd.int .i64) (w0 := W2) W2.heap.size rfl _ _ 26 3 (.int .i64 0) 8 rfl Tryd.underlying26 infoInt rfl (by decide) (by omega) (.slice Al labs.length cl0) labs y [.int .i64 y] (fun _ => True) (fun _ => False) rfl (by first | (go_simp; done) | (go_simp; rfl)) rfl (fun _ hk => hk.elim) (fun _ _ => trivial) ?aO ?aB ?aS ?aL ?_; (case aO => exact HR7.out.rl); (case aB => exact HB7.out); (case aS => omega); (case aL => have := HAL.out; have := HLL.out; omega); intro v8 w8 hR hB hg hat; obtain ⟨A8, c8, h8⟩ := Kd.R_slice hR; rw [show (labs ++ [y]).length = labs.length + 1 from by simp] at h8; subst h8; have HRT8 := Aside0.mk (HR7.out.appL hR hg hat); have HB8 := Aside0.mk (hB.setCell (p := ⟨w3.heap.size, 2, none⟩) hw3 (.slice A8 (labs.length + 1) c8)); have hbx8 := (hg.block _ (box_lt HR7.out.box) (Kd.R_ne HR7.out.rl HR7.out.box (by decide))).trans HR7.out.box; obtain ⟨t0, t1, t2⟩ := put3_cells hbx8; have f1 := blk_frozen hbx8 1; have f2 := blk_frozen hbx8 2; clear hR hB hg hat hbx8)
            go_roundw
            case rel => exact ⟨arcs.length + 1, by go_num, ⟨arcs ++ [row], labs ++ [y], order', _, _, HRT8.out.dropT, by rw [HY.out]; exact HMN.out, by simp⟩, HB8⟩
            case measure => simp [intOf]; omega
    · have HMIN : Aside0 (MinRes d ⟨0, arcs, labs⟩) := ⟨mm_end HOK.out HCO.out HMM.out (by omega)⟩
      obtain ⟨Aa, ca, hva⟩ := Kd.R_slice HRT.out.ra
      obtain ⟨Al, cl0, hvl⟩ := Kd.R_slice HRT.out.rl
      obtain ⟨Ao9, co9, hvo9⟩ := Kd.R_slice HRT.out.ro
      subst hva hvl hvo9
      obtain ⟨t0, t1, t2⟩ := put3_cells HRT.out.box
      have hx9 := (HB.out.block (w.heap.size + 1) (by omega)).trans HBX2.out
      obtain ⟨v0, v1, v2⟩ := put3_cells hx9
      have f0 := blk_frozen hx9 0
      have f1 := blk_frozen hx9 1
      have f2 := blk_frozen hx9 2
      have hro : RO wr W2.heap.size ⟨0, arcs, labs⟩ Aa ca Al cl0 := ⟨HRT.out.ra, HRT.out.rl⟩
      have HRO := Aside0.mk (RO.put3 hro hx9 (.int .i64 0) (.slice Aa arcs.length ca) (.slice Al labs.length cl0))
      have HP := Aside0.mk (put3 hx9 (.int .i64 0) (.slice Aa arcs.length ca) (.slice Al labs.length cl0))
      have hbw : Below w.heap.size w wr := (boxes2' (HB2.out.trans (HB.out.mono hs2))).2.2.1
      have HB9 := Aside0.mk (((hbw.setCell (p := ⟨w.heap.size + 1, 0, none⟩) (Nat.le_succ _) (.int .i64 0)).setCell (p := ⟨w.heap.size + 1, 1, none⟩) (Nat.le_succ _) (.slice Aa arcs.length ca)).setCell (p := ⟨w.heap.size + 1, 2, none⟩) (Nat.le_succ _) (.slice Al labs.length cl0))
      have hlt2 : ¬ ((arcs.length : Int) < (order.length : Int)) := by omega
      have hnb : w3.heap.size ≠ w.heap.size + 1 := by omega
      clear hx9 hro hbw y0 y1 y2 x0 x1 x2 hcd hcs
      go_wp2
      have hro := HRO.out
      have hp := HP.out
      have hb := HB9.out
      generalize hWF : (((wr.setCell ⟨w.heap.size + 1, 0, none⟩ (.int .i64 0)).setCell ⟨w.heap.size + 1, 1, none⟩ (.slice Aa arcs.length ca)).setCell ⟨w.heap.size + 1, 2, none⟩ (.slice Al labs.length cl0)) = WF at hro hp hb ⊢
      obtain ⟨p0, p1, p2⟩ := put3_cells hp
      refine bodyPost_ret (v := .agg #[.int .i64 0, .slice Aa arcs.length ca, .slice Al labs.length cl0]) (by simp [results, Tryd.results24, go_sem, p0, p1, p2]) rfl ?_
      exact ⟨⟨0, arcs, labs⟩, Aa, ca, Al, cl0, rfl, ⟨Kd.R_lower hro.a (by omega), Kd.R_lower hro.l (by omega)⟩, HMIN.out, hb⟩
end Go.Proofs.YthohahcpdgebbaaDoor.Wk
