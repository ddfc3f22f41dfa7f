/- Proved: what a part of the given program (its deterministic automata, and the functions that they call) computes, and laws on that, under the conditions that each theorem names. -/
import Derived.Test.YthohahcpdgebbaaDoorJSme
import Derived.Test.YthohahcpdgebbaaDoorJEnd
import Derived.Test.YthohahcpdgebbaaDoorJRef
import Derived.Deep.RegionWith
namespace Go.Proofs.YthohahcpdgebbaaDoor.Wk
open Go.RowKit Go.Proofs.YthohahcpdgebbaaDoorW.PrintWords Go.Proofs.YthohahcpdgebbaaDoorW.PrintLast Go.Proofs.YthohahcpdgebbaaDoorW.PrintMore
open Go.Proofs.YthohahcpdgebbaaDoor.Th
set_option linter.unusedVariables false
set_option linter.unusedSimpArgs false
theorem long_rows3 {d : Dfa} (h : longB d = false) : (∀ l ∈ d.arcs, l.length ≤ 8) ∧ d.arcs.length ≤ 10 := by
  unfold longB at h
  simp only [Bool.or_eq_false_iff] at h
  refine ⟨fun l hl => ?_, by simpa using h.1⟩
  have h := h.2.2
  rw [List.any_eq_false] at h
  have := h l hl
  simpa using this
theorem flat_le (ls : List (List Arc)) (h : ∀ l ∈ ls, l.length ≤ 8) : ls.flatten.length ≤ 8 * ls.length := by
  induction ls with
  | nil => simp
  | cons x r ih =>
    have h1 := h x (by simp)
    have h2 := ih (fun l hl => h l (by simp [hl]))
    simp only [List.flatten_cons, List.length_append, List.length_cons]
    omega
theorem long_flat {d : Dfa} (h : longB d = false) : d.arcs.flatten.length ≤ 1073741824 := by
  obtain ⟨h1, h2⟩ := long_rows3 h
  have := flat_le d.arcs h1
  omega
theorem equal_min (d m m' : Dfa) (A1 : Option Addr) (c1 : Nat) (A2 : Option Addr) (c2 : Nat) (A3 : Option Addr) (c3 : Nat) (A4 : Option Addr) (c4 : Nat) (w : World) (hok : Ok d) (h : MinRes d m) (h' : MinRes d m') (ha : RdD w m A1 c1 A2 c2) (hb : RdD w m' A3 c3 A4 c4) :
    Calls Tryd.prog 15 #[.agg #[.int .i64 m.start, .slice A1 m.arcs.length c1, .slice A2 m.labels.length c2], .agg #[.int .i64 m'.start, .slice A3 m'.arcs.length c3, .slice A4 m'.labels.length c4]] w fun e w' => e = .returned (.bool true) ∧ Below w.heap.size w w' := by
  refine (equal_calls m m' A1 c1 A2 c2 A3 c3 A4 c4 w ha hb).mono ?_
  rintro e w' ⟨rfl, hb⟩
  exact ⟨by rw [decide_eq_true (minRes_uniq hok h h')], hb⟩
set_option maxHeartbeats 8000000 in
set_option maxRecDepth 100000 in
theorem law3_calls (d : Dfa) (A1 : Option Addr) (c1 : Nat) (A2 : Option Addr) (c2 : Nat) (w : World) (hd : RdD w d A1 c1 A2 c2) (hlab : ∀ x ∈ d.labels, x ≤ 9223372036854775807) (htab : Tab w) :
    Calls Tryd.prog 5 #[.agg #[.int .i64 d.start, .slice A1 d.arcs.length c1, .slice A2 d.labels.length c2]] w fun e w' => e = .returned (.bool true) ∧ Below w.heap.size w w' := by
  have HD := Aside0.mk hd
  have HLAB := Aside0.mk hlab
  have HT := Aside0.mk htab
  clear hd hlab htab
  have hbw0 : Below w.heap.size w (w.alloc (.cells #[.int .i64 d.start, .slice A1 d.arcs.length c1, .slice A2 d.labels.length c2] 28)) := below_alloc (Below.refl _ _) _
  have HBW0 := Aside0.mk hbw0
  clear hbw0
  go_enter Tryd.func5, Tryd.ntmps5
  go_wp2_with fail
  refine (long_calls d A1 c1 A2 c2 _ (HD.out.below HBW0.out)).mono ?_
  rintro e w1 ⟨rfl, hb1⟩
  have HB1 := Aside0.mk (HBW0.out.trans (hb1.mono (by simp)))
  have hb1' : Below (w.heap.size + 1) (w.alloc (.cells #[.int .i64 d.start, .slice A1 d.arcs.length c1, .slice A2 d.labels.length c2] 28)) w1 := by
    have e : (w.alloc (.cells #[.int .i64 d.start, .slice A1 d.arcs.length c1, .slice A2 d.labels.length c2] 28)).heap.size = w.heap.size + 1 := by simp
    rwa [e] at hb1
  obtain ⟨hbox, _, hwz⟩ := box_later hb1'
  have x0 := hbox 0 _ rfl
  have x1 := hbox 1 _ rfl
  have x2 := hbox 2 _ rfl
  simp only [List.getElem_toArray, List.getElem_cons_zero, List.getElem_cons_succ] at x0 x1 x2
  clear hb1 hb1' hbox
  by_cases hlong : longB d = true
  · rw [hlong]
    clear hlong
    go_wp2_with fail
    refine (awake_calls _ (HT.out.later HB1.out)).mono ?_
    rintro e w2 ⟨rfl, hb2⟩
    have HB2 := Aside0.mk (HB1.out.trans (hb2.mono HB1.out.size))
    go_wp2
    go_ret
    exact ⟨rfl, HB2.out⟩
  · have hlf : longB d = false := by simpa using hlong
    rw [hlf]
    clear hlong
    have hflat := long_flat hlf
    have harc : ∀ l ∈ d.arcs, l.length ≤ 4294967296 := fun l hl => by
      unfold longB at hlf
      simp only [Bool.or_eq_false_iff] at hlf
      have h := hlf.2.2
      rw [List.any_eq_false] at h
      have := h l hl
      simp at this
      omega
    have HARC := Aside0.mk harc
    clear harc hlf
    go_wp2_with fail
    refine (checkR_calls d A1 c1 A2 c2 _ (HD.out.below HB1.out)).mono ?_
    rintro e w2 ⟨hc, hb2⟩
    have HB2 := Aside0.mk (HB1.out.trans (hb2.mono HB1.out.size))
    have y0 := below_cell hb2 x0
    have y1 := below_cell hb2 x1
    have y2 := below_cell hb2 x2
    clear hb2 x0 x1 x2
    rcases hc with ⟨rfl, hok⟩ | ⟨rfl, _⟩
    · have HOK := Aside0.mk hok
      clear hok
      go_wp2_with fail
      have hbd : Below w2.heap.size w2 w2.drew := below_drew (Below.refl _ _)
      have x0 := below_cell hbd y0
      have x1 := below_cell hbd y1
      have x2 := below_cell hbd y2
      have HDW := Aside0.mk ((HD.out.below HB2.out).below hbd)
      have HTW := Aside0.mk ((HT.out.later HB2.out).later hbd)
      have HBW := Aside0.mk (HB2.out.trans (hbd.mono HB2.out.size))
      have z0 : Below w2.drew.heap.size w2.drew w2.drew := Below.refl _ _
      have HFL := Aside0.mk hflat
      clear hbd y0 y1 y2 hflat
      go_region_held3 (fun w' => Below w2.drew.heap.size w2.drew w' ∧ (w'.cell? ⟨w.heap.size, 0, none⟩ = some (.int .i64 d.start) ∧ w'.cell? ⟨w.heap.size, 1, none⟩ = some (.slice A1 d.arcs.length c1) ∧ w'.cell? ⟨w.heap.size, 2, none⟩ = some (.slice A2 d.labels.length c2)))
        (first | exact ⟨z0, x0, x1, x2⟩)
        (first
          | (go_at_call 23; refine (minimize_calls d HOK.out A1 c1 A2 c2 _ (HDW.out.below z0) HARC.out HLAB.out (HTW.out.later z0)).mono ?_; rintro e wq ⟨m, B1, k1, B2, k2, rfl, hro, hmin, hbq⟩; have HMM := Aside0.mk hmin; have hdm := hro.rd; (try have hdr := hdr.below hbq); have x0 := below_cell hbq x0; have x1 := below_cell hbq x1; have x2 := below_cell hbq x2; have z0 := below_next z0 hbq; clear hro hmin)
          | (go_at_call 24; refine (minimizeR_calls d HOK.out A1 c1 A2 c2 _ (HDW.out.below z0) HARC.out HFL.out).mono ?_; rintro e wq ⟨m', D1, l1, D2, l2, rfl, hro, hmin, hbq⟩; have HMR := Aside0.mk hmin; have hdr := hro.rd; (try have hdm := hdm.below hbq); have x0 := below_cell hbq x0; have x1 := below_cell hbq x1; have x2 := below_cell hbq x2; have z0 := below_next z0 hbq; clear hro hmin)
          | (go_at_call 15; refine (equal_min d m m' B1 k1 B2 k2 D1 l1 D2 l2 _ HOK.out HMM.out HMR.out hdm hdr).mono ?_; rintro e wq ⟨rfl, hbq⟩; have x0 := below_cell hbq x0; have x1 := below_cell hbq x1; have x2 := below_cell hbq x2; have z0 := below_next z0 hbq)
          | (go_at_call 12; refine (awake_calls _ (HTW.out.later z0)).mono ?_; rintro e wq ⟨rfl, hbq⟩; have x0 := below_cell hbq x0; have x1 := below_cell hbq x1; have x2 := below_cell hbq x2; have z0 := below_next z0 hbq))
      all_goals (go_wp2; go_ret; exact ⟨rfl, below_next HBW.out z0⟩)
    · go_wp2_with fail
      refine (awake_calls _ (HT.out.later HB2.out)).mono ?_
      rintro e w3 ⟨rfl, hb3⟩
      have HB3 := Aside0.mk (HB2.out.trans (hb3.mono HB2.out.size))
      go_wp2
      go_ret
      exact ⟨rfl, HB3.out⟩
end Go.Proofs.YthohahcpdgebbaaDoor.Wk
