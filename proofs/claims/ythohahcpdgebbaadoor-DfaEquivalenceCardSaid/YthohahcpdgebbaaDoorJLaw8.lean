/- Proved: what a part of the given program (its deterministic automata, and the functions that they call) computes, and laws on that, under the conditions that each theorem names. -/
import Derived.Test.YthohahcpdgebbaaDoorJSme
import Derived.Test.YthohahcpdgebbaaDoorJEnd
import Derived.Deep.RegionWith
namespace Go.Proofs.YthohahcpdgebbaaDoor.Wk
open Go.RowKit Go.Proofs.YthohahcpdgebbaaDoorW.PrintWords Go.Proofs.YthohahcpdgebbaaDoorW.PrintLast Go.Proofs.YthohahcpdgebbaaDoorW.PrintMore
open Go.Proofs.YthohahcpdgebbaaDoor.Th
set_option linter.unusedVariables false
set_option linter.unusedSimpArgs false
theorem long_rows {d : Dfa} (h : longB d = false) : ∀ l ∈ d.arcs, l.length ≤ 4294967296 := fun l hl => by
  unfold longB at h
  simp only [Bool.or_eq_false_iff] at h
  have h := h.2.2
  rw [List.any_eq_false] at h
  have := h l hl
  simp at this
  omega
section
variable (a : Dfa) (A1 : Option Addr) (c1 : Nat) (A2 : Option Addr) (c2 : Nat)
theorem min_fixed (m : Dfa) (w : World) (ha : Ok a) (hm : MinRes a m) (hd : RdD w a A1 c1 A2 c2) (hlab : ∀ x ∈ a.labels, x ≤ 9223372036854775807) (htab : Tab w) :
    Calls Tryd.prog 23 #[.agg #[.int .i64 a.start, .slice A1 a.arcs.length c1, .slice A2 a.labels.length c2]] w fun e w' => ∃ B1 k1 B2 k2, e = .returned (.agg #[.int .i64 m.start, .slice B1 m.arcs.length k1, .slice B2 m.labels.length k2]) ∧ RdD w' m B1 k1 B2 k2 ∧ Below w.heap.size w w' := by
  refine (minimize_calls a ha A1 c1 A2 c2 w hd (ok_rows ha) hlab htab).mono ?_
  rintro e w' ⟨m', B1, k1, B2, k2, rfl, hro, hmin, hb⟩
  obtain rfl := minRes_uniq ha hm hmin
  exact ⟨B1, k1, B2, k2, rfl, hro.rd, hb⟩
variable (b : Dfa) (A3 : Option Addr) (c3 : Nat) (A4 : Option Addr) (c4 : Nat)
theorem same_fixed (ma mb : Dfa) (r : Bool) (w : World) (ha : Ok a) (hb : Ok b) (hma : MinRes a ma) (hmb : MinRes b mb) (hr : decide (ma = mb) = r) (hda : RdD w a A1 c1 A2 c2) (hdb : RdD w b A3 c3 A4 c4) (hla : ∀ x ∈ a.labels, x ≤ 9223372036854775807) (hlb : ∀ x ∈ b.labels, x ≤ 9223372036854775807) (htab : Tab w) :
    Calls Tryd.prog 25 #[.agg #[.int .i64 a.start, .slice A1 a.arcs.length c1, .slice A2 a.labels.length c2], .agg #[.int .i64 b.start, .slice A3 b.arcs.length c3, .slice A4 b.labels.length c4]] w fun e w' => e = .returned (.bool r) ∧ Below w.heap.size w w' := by
  refine (same_calls a b A1 c1 A2 c2 A3 c3 A4 c4 w ha hb hda hdb hla hlb htab).mono ?_
  rintro e w' ⟨⟨ma', mb', h1, h2, rfl⟩, hbel⟩
  obtain rfl := minRes_uniq ha hma h1
  obtain rfl := minRes_uniq hb hmb h2
  exact ⟨by rw [hr], hbel⟩
theorem equal_fixed (r : Bool) (w : World) (hr : decide (a = b) = r) (ha : RdD w a A1 c1 A2 c2) (hb : RdD w b A3 c3 A4 c4) :
    Calls Tryd.prog 15 #[.agg #[.int .i64 a.start, .slice A1 a.arcs.length c1, .slice A2 a.labels.length c2], .agg #[.int .i64 b.start, .slice A3 b.arcs.length c3, .slice A4 b.labels.length c4]] w fun e w' => e = .returned (.bool r) ∧ Below w.heap.size w w' := by
  refine (equal_calls a b A1 c1 A2 c2 A3 c3 A4 c4 w ha hb).mono ?_
  rintro e w' ⟨rfl, hb⟩
  exact ⟨by rw [hr], hb⟩
end
theorem same_run {a b m : Dfa} (ha : Ok a) (hb : Ok b) (hma : MinRes a m) (hmb : MinRes b m) (s : ByteArray) : Th.run a a.start (finL s) = Th.run b b.start (finL s) := by
  obtain ⟨_, h1, _⟩ := minRes_canon ha hma
  obtain ⟨_, h2, _⟩ := minRes_canon hb hmb
  exact (h1 _ (finL_C s)).symm.trans (h2 _ (finL_C s))
set_option maxHeartbeats 16000000 in
set_option maxRecDepth 100000 in
theorem law8_calls (a : Dfa) (A1 : Option Addr) (c1 : Nat) (A2 : Option Addr) (c2 : Nat) (b : Dfa) (A3 : Option Addr) (c3 : Nat) (A4 : Option Addr) (c4 : Nat) (s : ByteArray) (w : World) (hda : RdD w a A1 c1 A2 c2) (hdb : RdD w b A3 c3 A4 c4) (hla : ∀ x ∈ a.labels, x ≤ 9223372036854775807) (hlb : ∀ x ∈ b.labels, x ≤ 9223372036854775807) (hss : s.size ≤ 9223372036854775807) (htab : Tab w) :
    Calls Tryd.prog 8 #[.agg #[.int .i64 a.start, .slice A1 a.arcs.length c1, .slice A2 a.labels.length c2], .agg #[.int .i64 b.start, .slice A3 b.arcs.length c3, .slice A4 b.labels.length c4], .string s] w fun e w' => e = .returned (.bool true) ∧ Below w.heap.size w w' := by
  have HDA := Aside0.mk hda
  have HDB := Aside0.mk hdb
  have HLA := Aside0.mk hla
  have HLB := Aside0.mk hlb
  have HT := Aside0.mk htab
  clear hda hdb hla hlb htab
  have hb0 : Below w.heap.size w ((w.alloc (.cells #[.int .i64 a.start, .slice A1 a.arcs.length c1, .slice A2 a.labels.length c2] 28)).alloc (.cells #[.int .i64 b.start, .slice A3 b.arcs.length c3, .slice A4 b.labels.length c4] 28)) := below_alloc (below_alloc (Below.refl _ _) _) _
  have HB0 := Aside0.mk hb0
  clear hb0
  go_enter Tryd.func8, Tryd.ntmps8
  go_wp2_with fail
  refine (long_calls a A1 c1 A2 c2 _ (HDA.out.below HB0.out)).mono ?_
  rintro e w1 ⟨rfl, hb1⟩
  have e2 : ((w.alloc (.cells #[.int .i64 a.start, .slice A1 a.arcs.length c1, .slice A2 a.labels.length c2] 28)).alloc (.cells #[.int .i64 b.start, .slice A3 b.arcs.length c3, .slice A4 b.labels.length c4] 28)).heap.size = w.heap.size + 2 := by simp
  rw [e2] at hb1
  clear e2
  obtain ⟨k1, k2, hw1, hs1⟩ := boxes2 hb1
  obtain ⟨x0, x1, x2⟩ := put3_cells k1
  obtain ⟨y0, y1, y2⟩ := put3_cells k2
  have HB1 := Aside0.mk hw1
  clear hb1 k1 k2 hw1
  by_cases hlong : longB a = true
  · rw [hlong]
    clear hlong
    go_wp2_with fail
    refine (awake_calls _ (HT.out.later HB1.out)).mono ?_
    rintro e w2 ⟨rfl, hbx⟩
    have HBX := Aside0.mk (HB1.out.trans (hbx.mono HB1.out.size))
    go_wp2
    go_ret
    exact ⟨rfl, HBX.out⟩
  · have hlf : longB a = false := by simpa using hlong
    rw [hlf]
    have HRA := Aside0.mk (long_rows hlf)
    clear hlong hlf
    go_wp2_with fail
    refine (long_calls b A3 c3 A4 c4 _ (HDB.out.below HB1.out)).mono ?_
    rintro e w2 ⟨rfl, hb2⟩
    have HB2 := Aside0.mk (HB1.out.trans (hb2.mono HB1.out.size))
    have x0 := below_cell hb2 x0
    have x1 := below_cell hb2 x1
    have x2 := below_cell hb2 x2
    have y0 := below_cell hb2 y0
    have y1 := below_cell hb2 y1
    have y2 := below_cell hb2 y2
    have hs2 := Nat.le_trans hs1 hb2.size
    clear hb2 hs1
    by_cases hlong : longB b = true
    · rw [hlong]
      clear hlong
      go_wp2_with fail
      refine (awake_calls _ (HT.out.later HB2.out)).mono ?_
      rintro e w3 ⟨rfl, hbx⟩
      have HBX := Aside0.mk (HB2.out.trans (hbx.mono HB2.out.size))
      go_wp2
      go_ret
      exact ⟨rfl, HBX.out⟩
    · have hlf : longB b = false := by simpa using hlong
      rw [hlf]
      have HRB := Aside0.mk (long_rows hlf)
      clear hlong hlf
      by_cases hs20 : 20 < s.size
      · have t20 : decide ((20 : Int) < (s.size : Int)) = true := decide_eq_true (by omega)
        clear hs20
        go_wp2_with fail
        refine (awake_calls _ (HT.out.later HB2.out)).mono ?_
        rintro e w3 ⟨rfl, hbx⟩
        have HBX := Aside0.mk (HB2.out.trans (hbx.mono HB2.out.size))
        go_wp2
        go_ret
        exact ⟨rfl, HBX.out⟩
      · have t20 : decide ((20 : Int) < (s.size : Int)) = false := decide_eq_false (by omega)
        have hs32 : s.size ≤ 4294967296 := by omega
        have HS32 := Aside0.mk hs32
        clear hs20 hs32
        go_wp2_with fail
        refine (check_calls a A1 c1 A2 c2 _ (HDA.out.below HB2.out)).mono ?_
        rintro e w3 ⟨hc, hb3⟩
        have HB3 := Aside0.mk (HB2.out.trans (hb3.mono HB2.out.size))
        have x0 := below_cell hb3 x0
        have x1 := below_cell hb3 x1
        have x2 := below_cell hb3 x2
        have y0 := below_cell hb3 y0
        have y1 := below_cell hb3 y1
        have y2 := below_cell hb3 y2
        have hs3 := Nat.le_trans hs2 hb3.size
        clear hb3 hs2
        rcases hc with ⟨rfl, hok⟩ | ⟨rfl, _⟩
        · have HA := Aside0.mk hok
          clear hok
          go_wp2_with fail
          refine (check_calls b A3 c3 A4 c4 _ (HDB.out.below HB3.out)).mono ?_
          rintro e w4 ⟨hc, hb4⟩
          have HB4 := Aside0.mk (HB3.out.trans (hb4.mono HB3.out.size))
          have x0 := below_cell hb4 x0
          have x1 := below_cell hb4 x1
          have x2 := below_cell hb4 x2
          have y0 := below_cell hb4 y0
          have y1 := below_cell hb4 y1
          have y2 := below_cell hb4 y2
          have hs4 := Nat.le_trans hs3 hb4.size
          clear hb4 hs3
          rcases hc with ⟨rfl, hok⟩ | ⟨rfl, _⟩
          · have HB := Aside0.mk hok
            clear hok
            go_wp2_with fail
            refine (same_calls a b A1 c1 A2 c2 A3 c3 A4 c4 _ HA.out HB.out (HDA.out.below HB4.out) (HDB.out.below HB4.out) HLA.out HLB.out (HT.out.later HB4.out)).mono ?_
            rintro e w5 ⟨⟨ma, mb, hma, hmb, rfl⟩, hb5⟩
            have hw5 := HB4.out.trans (hb5.mono HB4.out.size)
            have x0 := below_cell hb5 x0
            have x1 := below_cell hb5 x1
            have x2 := below_cell hb5 x2
            have y0 := below_cell hb5 y0
            have y1 := below_cell hb5 y1
            have y2 := below_cell hb5 y2
            have hs5 := Nat.le_trans hs4 hb5.size
            have HMA := Aside0.mk hma
            have HMB := Aside0.mk hmb
            have HB5 := Aside0.mk hw5
            have HDA5 := Aside0.mk (HDA.out.below hw5)
            have HDB5 := Aside0.mk (HDB.out.below hw5)
            have HT5 := Aside0.mk (HT.out.later hw5)
            clear hb5 hs4 hma hmb hw5
            by_cases hm : ma = mb
            · rw [decide_eq_true hm]
              have HR := Aside0.mk (decide_eq_true hm)
              have HR2 := Aside0.mk (decide_eq_true hm.symm)
              obtain ⟨r, hr⟩ : ∃ r, r = Th.run a a.start (finL s) := ⟨_, rfl⟩
              have HRA2 := Aside0.mk hr.symm
              have HRB2 := Aside0.mk (show Th.run b b.start (finL s) = r from by rw [hr]; exact (same_run HA.out HB.out HMA.out (by rw [hm]; exact HMB.out) s).symm)
              have trr : (r != r) = false := bne_self_eq_false r
              clear hm hr
              have hbd : Below w5.heap.size w5 w5.drew := below_drew (Below.refl _ _)
              have x0 := below_cell hbd x0
              have x1 := below_cell hbd x1
              have x2 := below_cell hbd x2
              have y0 := below_cell hbd y0
              have y1 := below_cell hbd y1
              have y2 := below_cell hbd y2
              have HDAW := Aside0.mk (HDA5.out.below hbd)
              have HDBW := Aside0.mk (HDB5.out.below hbd)
              have HTW := Aside0.mk (HT5.out.later hbd)
              have HBW := Aside0.mk (HB5.out.trans (hbd.mono HB5.out.size))
              have z0 : Below w5.drew.heap.size w5.drew w5.drew := Below.refl _ _
              clear hbd
              go_wp2_with fail
              go_region_held3 (fun w' => Below w5.drew.heap.size w5.drew w' ∧ (w'.cell? ⟨w.heap.size, 0, none⟩ = some (.int .i64 a.start) ∧ w'.cell? ⟨w.heap.size, 1, none⟩ = some (.slice A1 a.arcs.length c1) ∧ w'.cell? ⟨w.heap.size, 2, none⟩ = some (.slice A2 a.labels.length c2)) ∧ (w'.cell? ⟨w.heap.size + 1, 0, none⟩ = some (.int .i64 b.start) ∧ w'.cell? ⟨w.heap.size + 1, 1, none⟩ = some (.slice A3 b.arcs.length c3) ∧ w'.cell? ⟨w.heap.size + 1, 2, none⟩ = some (.slice A4 b.labels.length c4)))
                (first | exact ⟨z0, ⟨x0, x1, x2⟩, y0, y1, y2⟩)
                (first
                  | (go_at_call_of 21 (Dfa.start a); refine (run_ok a A1 c1 A2 c2 s _ HA.out (HDAW.out.below z0) HS32.out HRA.out r HRA2.out).mono ?_; rintro e wq ⟨rfl, hbq⟩; have x0 := below_cell hbq x0; have x1 := below_cell hbq x1; have x2 := below_cell hbq x2; have y0 := below_cell hbq y0; have y1 := below_cell hbq y1; have y2 := below_cell hbq y2; have z0 := below_next z0 hbq)
                  | (go_at_call_of 21 (Dfa.start b); refine (run_ok b A3 c3 A4 c4 s _ HB.out (HDBW.out.below z0) HS32.out HRB.out r HRB2.out).mono ?_; rintro e wq ⟨rfl, hbq⟩; have x0 := below_cell hbq x0; have x1 := below_cell hbq x1; have x2 := below_cell hbq x2; have y0 := below_cell hbq y0; have y1 := below_cell hbq y1; have y2 := below_cell hbq y2; have z0 := below_next z0 hbq))
              have HBQ := Aside0.mk (below_next HBW.out z0)
              have HDAQ := Aside0.mk (HDAW.out.below z0)
              have HDBQ := Aside0.mk (HDBW.out.below z0)
              have HTQ := Aside0.mk (HTW.out.later z0)
              clear z0 HDAW HDBW HTW HBW
              have hbd : Below wq.heap.size wq wq.drew := below_drew (Below.refl _ _)
              have x0 := below_cell hbd x0
              have x1 := below_cell hbd x1
              have x2 := below_cell hbd x2
              have y0 := below_cell hbd y0
              have y1 := below_cell hbd y1
              have y2 := below_cell hbd y2
              have HDAW := Aside0.mk (HDAQ.out.below hbd)
              have HDBW := Aside0.mk (HDBQ.out.below hbd)
              have HTW := Aside0.mk (HTQ.out.later hbd)
              have HBW := Aside0.mk (HBQ.out.trans (hbd.mono HBQ.out.size))
              have z0 : Below wq.drew.heap.size wq.drew wq.drew := Below.refl _ _
              clear hbd
              have tt : (true == true) = true := rfl
              go_wp2_with fail
              go_region_held3 (fun w' => Below wq.drew.heap.size wq.drew w' ∧ (w'.cell? ⟨w.heap.size, 0, none⟩ = some (.int .i64 a.start) ∧ w'.cell? ⟨w.heap.size, 1, none⟩ = some (.slice A1 a.arcs.length c1) ∧ w'.cell? ⟨w.heap.size, 2, none⟩ = some (.slice A2 a.labels.length c2)) ∧ (w'.cell? ⟨w.heap.size + 1, 0, none⟩ = some (.int .i64 b.start) ∧ w'.cell? ⟨w.heap.size + 1, 1, none⟩ = some (.slice A3 b.arcs.length c3) ∧ w'.cell? ⟨w.heap.size + 1, 2, none⟩ = some (.slice A4 b.labels.length c4)))
                (first | exact ⟨z0, ⟨x0, x1, x2⟩, y0, y1, y2⟩)
                (first
                  | (go_at_call_of 23 (Dfa.start a); refine (min_fixed a A1 c1 A2 c2 ma _ HA.out HMA.out (HDAW.out.below z0) HLA.out (HTW.out.later z0)).mono ?_; rintro e wq ⟨D1, l1, D2, l2, rfl, hdd, hbq⟩; have HDD := Aside0.mk hdd; have x0 := below_cell hbq x0; have x1 := below_cell hbq x1; have x2 := below_cell hbq x2; have y0 := below_cell hbq y0; have y1 := below_cell hbq y1; have y2 := below_cell hbq y2; have z0 := below_next z0 hbq)
                  | (go_at_call_of 23 (Dfa.start b); refine (min_fixed b A3 c3 A4 c4 mb _ HB.out HMB.out (HDBW.out.below z0) HLB.out (HTW.out.later z0)).mono ?_; rintro e wq2 ⟨D3, l3, D4, l4, rfl, hde, hbq⟩; have HDE := Aside0.mk hde; have HDD := Aside0.mk (HDD.out.below hbq); have x0 := below_cell hbq x0; have x1 := below_cell hbq x1; have x2 := below_cell hbq x2; have y0 := below_cell hbq y0; have y1 := below_cell hbq y1; have y2 := below_cell hbq y2; have z0 := below_next z0 hbq)
                  | (go_at_call 15; refine (equal_fixed ma D1 l1 D2 l2 mb D3 l3 D4 l4 true _ HR.out HDD.out HDE.out).mono ?_; rintro e wq3 ⟨rfl, hbq⟩; have x0 := below_cell hbq x0; have x1 := below_cell hbq x1; have x2 := below_cell hbq x2; have y0 := below_cell hbq y0; have y1 := below_cell hbq y1; have y2 := below_cell hbq y2; have z0 := below_next z0 hbq)
                  | (go_at_call_of 25 (Dfa.start b); refine (same_fixed b A3 c3 A4 c4 a A1 c1 A2 c2 mb ma true _ HB.out HA.out HMB.out HMA.out HR2.out (HDBW.out.below z0) (HDAW.out.below z0) HLB.out HLA.out (HTW.out.later z0)).mono ?_; rintro e wq4 ⟨rfl, hbq⟩; have x0 := below_cell hbq x0; have x1 := below_cell hbq x1; have x2 := below_cell hbq x2; have y0 := below_cell hbq y0; have y1 := below_cell hbq y1; have y2 := below_cell hbq y2; have z0 := below_next z0 hbq)
                  | (go_at_call 25; refine (same_fixed a A1 c1 A2 c2 a A1 c1 A2 c2 ma ma true _ HA.out HA.out HMA.out HMA.out (decide_eq_true rfl) (HDAW.out.below z0) (HDAW.out.below z0) HLA.out HLA.out (HTW.out.later z0)).mono ?_; rintro e wq5 ⟨rfl, hbq⟩; have x0 := below_cell hbq x0; have x1 := below_cell hbq x1; have x2 := below_cell hbq x2; have y0 := below_cell hbq y0; have y1 := below_cell hbq y1; have y2 := below_cell hbq y2; have z0 := below_next z0 hbq)
                  | (go_at_call 12; refine (awake_calls _ (HTW.out.later z0)).mono ?_; rintro e wq6 ⟨rfl, hbq⟩; have x0 := below_cell hbq x0; have x1 := below_cell hbq x1; have x2 := below_cell hbq x2; have y0 := below_cell hbq y0; have y1 := below_cell hbq y1; have y2 := below_cell hbq y2; have z0 := below_next z0 hbq))
              all_goals (go_wp2; go_ret; exact ⟨rfl, below_next HBW.out z0⟩)
            · rw [decide_eq_false hm]
              have HR := Aside0.mk (decide_eq_false hm)
              have HR2 := Aside0.mk (decide_eq_false (fun (e : mb = ma) => hm e.symm))
              clear hm
              go_wp2_with fail
              go_quiet (fail)
              have hbd0 : Below w5.heap.size w5 (w5.drewN nq) := pw_below_drewN (Below.refl _ _) nq
              have x0 := below_cell hbd0 x0
              have x1 := below_cell hbd0 x1
              have x2 := below_cell hbd0 x2
              have y0 := below_cell hbd0 y0
              have y1 := below_cell hbd0 y1
              have y2 := below_cell hbd0 y2
              have HBQ := Aside0.mk (HB5.out.trans (hbd0.mono HB5.out.size))
              have HDAQ := Aside0.mk (HDA5.out.below hbd0)
              have HDBQ := Aside0.mk (HDB5.out.below hbd0)
              have HTQ := Aside0.mk (HT5.out.later hbd0)
              generalize w5.drewN nq = wq at x0 x1 x2 y0 y1 y2 HBQ HDAQ HDBQ HTQ ⊢
              clear hbd0
              have hbd : Below wq.heap.size wq wq.drew := below_drew (Below.refl _ _)
              have x0 := below_cell hbd x0
              have x1 := below_cell hbd x1
              have x2 := below_cell hbd x2
              have y0 := below_cell hbd y0
              have y1 := below_cell hbd y1
              have y2 := below_cell hbd y2
              have HDAW := Aside0.mk (HDAQ.out.below hbd)
              have HDBW := Aside0.mk (HDBQ.out.below hbd)
              have HTW := Aside0.mk (HTQ.out.later hbd)
              have HBW := Aside0.mk (HBQ.out.trans (hbd.mono HBQ.out.size))
              have z0 : Below wq.drew.heap.size wq.drew wq.drew := Below.refl _ _
              clear hbd
              have tt : (false == false) = true := rfl
              go_wp2_with fail
              go_region_held3 (fun w' => Below wq.drew.heap.size wq.drew w' ∧ (w'.cell? ⟨w.heap.size, 0, none⟩ = some (.int .i64 a.start) ∧ w'.cell? ⟨w.heap.size, 1, none⟩ = some (.slice A1 a.arcs.length c1) ∧ w'.cell? ⟨w.heap.size, 2, none⟩ = some (.slice A2 a.labels.length c2)) ∧ (w'.cell? ⟨w.heap.size + 1, 0, none⟩ = some (.int .i64 b.start) ∧ w'.cell? ⟨w.heap.size + 1, 1, none⟩ = some (.slice A3 b.arcs.length c3) ∧ w'.cell? ⟨w.heap.size + 1, 2, none⟩ = some (.slice A4 b.labels.length c4)))
                (first | exact ⟨z0, ⟨x0, x1, x2⟩, y0, y1, y2⟩)
                (first
                  | (go_at_call_of 23 (Dfa.start a); refine (min_fixed a A1 c1 A2 c2 ma _ HA.out HMA.out (HDAW.out.below z0) HLA.out (HTW.out.later z0)).mono ?_; rintro e wq ⟨D1, l1, D2, l2, rfl, hdd, hbq⟩; have HDD := Aside0.mk hdd; have x0 := below_cell hbq x0; have x1 := below_cell hbq x1; have x2 := below_cell hbq x2; have y0 := below_cell hbq y0; have y1 := below_cell hbq y1; have y2 := below_cell hbq y2; have z0 := below_next z0 hbq)
                  | (go_at_call_of 23 (Dfa.start b); refine (min_fixed b A3 c3 A4 c4 mb _ HB.out HMB.out (HDBW.out.below z0) HLB.out (HTW.out.later z0)).mono ?_; rintro e wq2 ⟨D3, l3, D4, l4, rfl, hde, hbq⟩; have HDE := Aside0.mk hde; have HDD := Aside0.mk (HDD.out.below hbq); have x0 := below_cell hbq x0; have x1 := below_cell hbq x1; have x2 := below_cell hbq x2; have y0 := below_cell hbq y0; have y1 := below_cell hbq y1; have y2 := below_cell hbq y2; have z0 := below_next z0 hbq)
                  | (go_at_call 15; refine (equal_fixed ma D1 l1 D2 l2 mb D3 l3 D4 l4 false _ HR.out HDD.out HDE.out).mono ?_; rintro e wq3 ⟨rfl, hbq⟩; have x0 := below_cell hbq x0; have x1 := below_cell hbq x1; have x2 := below_cell hbq x2; have y0 := below_cell hbq y0; have y1 := below_cell hbq y1; have y2 := below_cell hbq y2; have z0 := below_next z0 hbq)
                  | (go_at_call_of 25 (Dfa.start b); refine (same_fixed b A3 c3 A4 c4 a A1 c1 A2 c2 mb ma false _ HB.out HA.out HMB.out HMA.out HR2.out (HDBW.out.below z0) (HDAW.out.below z0) HLB.out HLA.out (HTW.out.later z0)).mono ?_; rintro e wq4 ⟨rfl, hbq⟩; have x0 := below_cell hbq x0; have x1 := below_cell hbq x1; have x2 := below_cell hbq x2; have y0 := below_cell hbq y0; have y1 := below_cell hbq y1; have y2 := below_cell hbq y2; have z0 := below_next z0 hbq)
                  | (go_at_call 25; refine (same_fixed a A1 c1 A2 c2 a A1 c1 A2 c2 ma ma true _ HA.out HA.out HMA.out HMA.out (decide_eq_true rfl) (HDAW.out.below z0) (HDAW.out.below z0) HLA.out HLA.out (HTW.out.later z0)).mono ?_; rintro e wq5 ⟨rfl, hbq⟩; have x0 := below_cell hbq x0; have x1 := below_cell hbq x1; have x2 := below_cell hbq x2; have y0 := below_cell hbq y0; have y1 := below_cell hbq y1; have y2 := below_cell hbq y2; have z0 := below_next z0 hbq)
                  | (go_at_call 12; refine (awake_calls _ (HTW.out.later z0)).mono ?_; rintro e wq6 ⟨rfl, hbq⟩; have x0 := below_cell hbq x0; have x1 := below_cell hbq x1; have x2 := below_cell hbq x2; have y0 := below_cell hbq y0; have y1 := below_cell hbq y1; have y2 := below_cell hbq y2; have z0 := below_next z0 hbq))
              all_goals (go_wp2; go_ret; exact ⟨rfl, below_next HBW.out z0⟩)
          · clear hs4
            go_wp2_with fail
            refine (awake_calls _ (HT.out.later HB4.out)).mono ?_
            rintro e w5 ⟨rfl, hbx⟩
            have HBX := Aside0.mk (HB4.out.trans (hbx.mono HB4.out.size))
            go_wp2
            go_ret
            exact ⟨rfl, HBX.out⟩
        · clear hs3
          go_wp2_with fail
          refine (awake_calls _ (HT.out.later HB3.out)).mono ?_
          rintro e w4 ⟨rfl, hbx⟩
          have HBX := Aside0.mk (HB3.out.trans (hbx.mono HB3.out.size))
          go_wp2
          go_ret
          exact ⟨rfl, HBX.out⟩
end Go.Proofs.YthohahcpdgebbaaDoor.Wk
