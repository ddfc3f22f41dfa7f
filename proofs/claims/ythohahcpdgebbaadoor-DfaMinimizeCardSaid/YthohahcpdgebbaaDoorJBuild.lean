/- Proved: what a part of the given program (its deterministic automata, and the functions that they call) computes, and laws on that, under the conditions that each theorem names. -/
import Derived.Test.YthohahcpdgebbaaDoorJArcs
import Derived.Test.YthohahcpdgebbaaDoorJMin
namespace Go.Proofs.YthohahcpdgebbaaDoor.Wk
open Go.RowKit Go.Proofs.YthohahcpdgebbaaDoorW.PrintWords Go.Proofs.YthohahcpdgebbaaDoorW.PrintLast Go.Proofs.YthohahcpdgebbaaDoorW.PrintMore
open Go.Proofs.YthohahcpdgebbaaDoor.Th
set_option linter.unusedVariables false
set_option linter.unusedSimpArgs false
def BuildRes (l : List Nf) (e : Ending) (w w' : World) : Prop :=
  (∃ sets arcs labs, PInv l sets arcs labs ∧ arcs.length = sets.length ∧ sets.length ≤ 3000 ∧ ∃ m B1 k1 B2 k2, e = .returned (.tuple #[.agg #[.int .i64 m.start, .slice B1 m.arcs.length k1, .slice B2 m.labels.length k2], .int .i64 0]) ∧ RO w' w.heap.size m B1 k1 B2 k2 ∧ MinRes ⟨0, arcs, labs⟩ m ∧ Below w.heap.size w w') ∨
  (∃ sets arcs labs, PInv l sets arcs labs ∧ 3000 < sets.length ∧ e = .returned (.tuple #[.agg #[.int .i64 0, .slice none 0 0, .slice none 0 0], .int .i64 5]) ∧ Below w.heap.size w w')
theorem okA_count {n : Int} : ∀ {l : List Arc} {b : Int}, okA n b l → b ≤ 1114111 → (l.length : Int) ≤ 1114111 - b
  | [], b, _, h => by simp; omega
  | a :: l, b, ⟨o1, o2, o3, o4, o5, o6, o7⟩, h => by
    have hh : a.hi ≤ 1114111 := by unfold isC at o3; omega
    have := okA_count o7 hh
    simp only [List.length_cons]
    omega
theorem labelL_lt {l : List Nf} {S : List Pr} (h : InP l S) : labelL l S < l.length ∨ labelL l S = -1 := by
  unfold labelL
  cases hf : S.find? (fun p => (l.getD p.which.toNat default).acc = p.state) with
  | none => exact .inr rfl
  | some p =>
    obtain ⟨i, h1, hw, _⟩ := h p (List.mem_of_find?_eq_some hf)
    left
    show p.which < _
    omega
structure OB (w : World) (base ob : Nat) (va vl : Value) (arcs : List (List Arc)) (labs : List Int) : Prop where
  box : w.heap[ob]? = some (.cells #[.int .i64 0, va, vl] 28 (0, 0))
  ra : kArcs.R 50 w base (fun _ => True) va arcs
  rl : (Kd.int .i64).R 3 w base (fun _ => True) vl labs
theorem OB.later {w w' : World} {base ob : Nat} {va vl : Value} {arcs : List (List Arc)} {labs : List Int} (h : OB w base ob va vl arcs labs) (hb : Below w.heap.size w w') : OB w' base ob va vl arcs labs :=
  ⟨by rw [hb.block ob (box_lt h.box)]; exact h.box, Kd.R_below h.ra hb, Kd.R_below h.rl hb⟩
theorem OB.fr {w w' : World} {base b ob : Nat} {va vl : Value} {arcs : List (List Arc)} {labs : List Int} (h : OB w base ob va vl arcs labs) (hf : Fr b w w') : OB w' base ob va vl arcs labs :=
  ⟨hf.cell (p := ⟨ob, 0, none⟩) h.box (by decide) (by decide), hf.row h.ra (fun q hq => by rcases arcs_E hq with h | h <;> rw [h] <;> decide), hf.row h.rl (fun q hq => by rw [int_E hq]; decide)⟩
theorem OB.close {w : World} {base ob : Nat} {a b va vl : Value} {arcs : List (List Arc)} {labs : List Int} (hbx : w.heap[ob]? = some (.cells #[.int .i64 0, a, b] 28 (0, 0))) (ra : kArcs.R 50 w base (fun _ => True) va arcs) (rl : (Kd.int .i64).R 3 w base (fun _ => True) vl labs) :
    OB ((w.setCell ⟨ob, 1, none⟩ va).setCell ⟨ob, 2, none⟩ vl) base ob va vl arcs labs := by
  have h1 : (w.setCell ⟨ob, 1, none⟩ va).heap[ob]? = some (.cells #[.int .i64 0, va, b] 28 (0, 0)) := by simp [World.setCell, Array.getElem?_modify, hbx]
  have eA : ∀ q ∈ 50 :: kArcs.E, q ≠ 28 := fun q hq => by rcases arcs_E hq with h | h <;> rw [h] <;> decide
  have eI : ∀ q ∈ 3 :: (Kd.int .i64).E, q ≠ 28 := fun q hq => by rw [int_E hq]; decide
  exact ⟨by simp [World.setCell, Array.getElem?_modify, hbx], Kd.R_set (Kd.R_set ra hbx eA 1 va) h1 eA 2 vl, Kd.R_set (Kd.R_set rl hbx eI 1 va) h1 eI 2 vl⟩
theorem BS.put {w : World} {base bp mb : Nat} {lv : Value} {sets : List (List Pr)} {g : Nat} {cs : Array Value} (h : BS w base bp mb lv sets) (hg : w.heap[g]? = some (.cells cs 28 (0, 0))) (j : Nat) (u : Value) : BS (w.setCell ⟨g, j, none⟩ u) base bp mb lv sets :=
  h.step (fun k hk => Below.heap_setCell _ _ _ _ (fun e => by
    have e : k = g := e
    rw [e, hg] at hk
    rcases hk with ⟨_, _, _, h, h5⟩ | ⟨_, _, h⟩
    · injection h with h
      injection h with _ h
      subst h
      rcases h5 with h5 | h5 | h5 <;> exact absurd h5 (by decide)
    · cases h))
theorem RO.put {w : World} {base : Nat} {m : Dfa} {B1 : Option Addr} {k1 : Nat} {B2 : Option Addr} {k2 : Nat} {g : Nat} {cs : Array Value} (h : RO w base m B1 k1 B2 k2) (hg : w.heap[g]? = some (.cells cs 28 (0, 0))) (j : Nat) (u : Value) : RO (w.setCell ⟨g, j, none⟩ u) base m B1 k1 B2 k2 :=
  ⟨Kd.R_set h.a hg (fun q hq => by rcases arcs_E hq with h | h <;> rw [h] <;> decide) j u, Kd.R_set h.l hg (fun q hq => by rw [int_E hq]; decide) j u⟩
theorem RO.put3 {w : World} {base : Nat} {m : Dfa} {B1 : Option Addr} {k1 : Nat} {B2 : Option Addr} {k2 : Nat} {g : Nat} {a b c : Value} (h : RO w base m B1 k1 B2 k2) (hg : w.heap[g]? = some (.cells #[a, b, c] 28 (0, 0))) (u0 u1 u2 : Value) :
    RO (((w.setCell ⟨g, 0, none⟩ u0).setCell ⟨g, 1, none⟩ u1).setCell ⟨g, 2, none⟩ u2) base m B1 k1 B2 k2 :=
  ((h.put hg 0 u0).put (cs := #[u0, b, c]) (by simp [World.setCell, Array.getElem?_modify, hg]) 1 u1).put (cs := #[u0, u1, c]) (by simp [World.setCell, Array.getElem?_modify, hg]) 2 u2
theorem startPairs_take {l : List Nf} {k : Nat} (hk : k < l.length) : (startPairs l).take (k + 1) = (startPairs l).take k ++ [⟨(k : Int), (l.getD k default).start⟩] := by
  have hl : (startPairs l).length = l.length := by simp [startPairs]
  rw [take_next default (by omega)]
  congr 2
  rw [List.getD_eq_getElem?_getD]
  simp [startPairs, hk]
set_option maxHeartbeats 8000000 in
set_option maxRecDepth 100000 in
theorem build_calls (l : List Nf) (hok : OkL l) (hln : l.length ≤ 16) (hne : l ≠ []) (Al : Option Addr) (cl0 : Nat) (w : World) (hl : kNf.C w Al l.length l) (hmv : ∀ u, allC u → (movesOf l (aftr l u)).length ≤ 6) (hrow : ∀ a ∈ l, ∀ r ∈ a.arcs, r.length ≤ 4294967296) (htab : Tab w) :
    Calls Tryd.prog 13 #[.slice Al l.length cl0] w fun e w' => BuildRes l e w w' := by
  have hL : ∀ w', Below w.heap.size w w' → kNf.C w' Al l.length l := fun w' hb => Kd.C_below hl hb
  have hT : ∀ w', Below w.heap.size w w' → Tab w' := fun w' hb => htab.later hb
  have HOK := Aside0.mk hok
  have HL := Aside0.mk hL
  have HT := Aside0.mk hT
  have HMV := Aside0.mk hmv
  have HROW := Aside0.mk hrow
  have HNE := Aside0.mk hne
  have hl0 : 0 < l.length := List.length_pos_iff.2 hne
  clear hok hl hmv hrow htab hL hT hne
  go_enter Tryd.func13, Tryd.ntmps13
  go_wp2
  go_loopw [4, 19] (fun v iv wr => ∃ k : Nat, k ≤ l.length ∧ iv = .int .i64 k ∧ Aside0 (kPr.R 58 wr w.heap.size (fun _ => True) v ((startPairs l).take k)) ∧ Aside0 (wr.heap[w.heap.size]? = some (.cells #[.int .i64 0, .slice none 0 0, .slice none 0 0] 28 (0, 0))) ∧ Aside0 (Below w.heap.size w wr)) (fun _ iv _ => l.length - (intOf iv).toNat)
  case atStart => exact ⟨0, by omega, rfl, ⟨Kd.R_nil _ _ _ _ _⟩, ⟨heap_alloc_new w _⟩, ⟨below_alloc (Below.refl _ _) _⟩⟩
  case round =>
    obtain ⟨k, hk, rfl, HO, HX, HB⟩ := hrel
    have hwb := HB.out.size
    by_cases hlt : k < l.length
    · obtain ⟨b1, o1, A4, c4, A5, c5, e, hb1, hc0, hc1, hc2, hc3, hrd⟩ := at_nf (HL.out wr HB.out) k hlt
      cases e
      have hoka := HOK.out.at hlt
      have htk := startPairs_take hlt
      obtain ⟨a, ha⟩ : ∃ a, a = l.getD k default := ⟨_, rfl⟩
      rw [← ha] at hc0 hc1 hc2 hc3 hrd hoka htk
      have HRD := Aside0.mk hrd
      have HOKA := Aside0.mk hoka
      have HTK := Aside0.mk htk
      have hlen : ((startPairs l).take k).length ≤ 16 := by rw [List.length_take]; omega
      obtain ⟨P, hP⟩ : ∃ P, P = (startPairs l).take k := ⟨_, rfl⟩
      rw [← hP] at HO hlen HTK
      obtain ⟨A6, c6, rfl⟩ := Kd.R_slice HO.out
      have hxl := box_lt HX.out
      clear ha hrd hoka htk hP
      go_wp2_with fail
      refine (ncheck_calls a A4 c4 A5 c5 _ (HRD.out.below (below_alloc (Below.refl _ _) _))).mono ?_
      rintro e w1 ⟨hc, hb⟩
      rcases hc with ⟨rfl, _⟩ | ⟨rfl, hno⟩
      case inr => exact absurd HOKA.out hno
      have hb0 : Below (wr.heap.size + 1) (wr.alloc (.cells #[.int .i64 a.start, .int .i64 a.acc, .slice A4 a.arcs.length c4, .slice A5 a.empty.length c5] 46)) w1 := by
        have e : (wr.alloc (.cells #[.int .i64 a.start, .int .i64 a.acc, .slice A4 a.arcs.length c4, .slice A5 a.empty.length c5] 46)).heap.size = wr.heap.size + 1 := by simp
        rwa [e] at hb
      obtain ⟨hbox, hbel, hwz⟩ := box_later hb0
      have y0 := hbox 0 _ rfl
      have HO1 := Aside0.mk (Kd.R_below HO.out hbel)
      have HX1 := Aside0.mk ((hbel.block _ hxl).trans HX.out)
      have HB1 := Aside0.mk (HB.out.trans (hbel.mono hwb))
      clear hb hb0 hbox hbel
      go_wp2_with (at_builtin; refine Kd.R_append kPr (w0 := w) w.heap.size rfl _ _ 55 58 (.agg #[.int .i64 0, .int .i64 0]) 16 rfl Tryd.underlying55 infoPr rfl (by decide) (by decide) (.slice A6 P.length c6) P ⟨(k : Int), a.start⟩ [.int .i64 k, .int .i64 a.start] (fun _ => True) (fun _ => False) rfl (by first | (go_simp; done) | (go_simp; rfl)) (kPr_mkM _ _ _ _) (fun _ hk => hk.elim) (fun _ _ => trivial) ?aO ?aB ?aS ?aL ?_; (case aO => exact HO1.out); (case aB => exact HB1.out); (case aS => have := HB1.out.size; omega); (case aL => omega); intro v1 w2 hR hB hg hat; have HRN := Aside0.mk hR; have HBN := Aside0.mk hB; have HXN := Aside0.mk ((hg.block _ (box_lt HX1.out) (Kd.R_ne HO1.out HX1.out (by decide))).trans HX1.out); clear hR hB hg hat)
      go_roundw
      case rel => exact ⟨k + 1, by omega, by go_num, ⟨by rw [HTK.out]; exact HRN.out⟩, HXN, HBN⟩
      case measure => simp [intOf]; omega
    · obtain rfl : k = l.length := by omega
      have hlP : (startPairs l).length = l.length := by simp [startPairs]
      rw [← hlP, List.take_length] at HO
      obtain ⟨A6, c6, rfl⟩ := Kd.R_slice HO.out
      rw [hlP] at HO ⊢
      have HLP := Aside0.mk hlP
      have hlb : ((l.length : Int) == 0) = false := beq_eq_false_iff_ne.2 (by omega)
      have hxl := box_lt HX.out
      have hmm := @run_makeMap Tryd.prog
      have HM0 := Aside0.mk (mapIs_made 9 litS wr)
      clear hlP
      have hbs0 : BS ((wr.alloc (.map #[] 0)).alloc (.cells #[.slice Al l.length cl0, .slice none 0 0, .map (some wr.heap.size)] 63)) w.heap.size (wr.heap.size + 1) wr.heap.size (.slice Al l.length cl0) [] := by
        refine ⟨by omega, hwb, ⟨.slice none 0 0, ?_, Kd.R_nil _ _ _ _ _⟩, ?_⟩
        · have h := heap_alloc_new (wr.alloc (.map #[] 0)) (.cells #[.slice Al l.length cl0, .slice none 0 0, .map (some wr.heap.size)] 63)
          have e : (wr.alloc (.map #[] 0)).heap.size = wr.heap.size + 1 := by simp
          rw [← e]
          exact h
        · have h := (HM0.out).later (below_alloc (Below.refl _ _) (.cells #[.slice Al l.length cl0, .slice none 0 0, .map (some wr.heap.size)] 63))
          rw [List.map_nil, nfun_nil]
          exact h
      have hbb0 : Below wr.heap.size wr ((wr.alloc (.map #[] 0)).alloc (.cells #[.slice Al l.length cl0, .slice none 0 0, .map (some wr.heap.size)] 63)) := below_alloc (below_alloc (Below.refl _ _) _) _
      have HBS0 := Aside0.mk hbs0
      have HB0 := Aside0.mk (HB.out.trans (hbb0.mono hwb))
      have HO0 := Aside0.mk (Kd.R_below HO.out hbb0)
      have HX0 := Aside0.mk ((hbb0.block _ hxl).trans HX.out)
      have hsz0 : ((wr.alloc (.map #[] 0)).alloc (.cells #[.slice Al l.length cl0, .slice none 0 0, .map (some wr.heap.size)] 63)).heap.size = wr.heap.size + 2 := by simp
      clear hbs0 hbb0
      go_wp2_with fail
      obtain ⟨wL, rfl⟩ : ∃ wL : World, wL = wr := ⟨_, rfl⟩
      generalize hWW : ((wL.alloc (.map #[] 0)).alloc (.cells #[.slice Al l.length cl0, .slice none 0 0, .map (some wL.heap.size)] 63)) = W0 at HBS0 HB0 HO0 HX0 hsz0 ⊢
      clear hmm HM0 hWW HO HX
      have hwb0 : w.heap.size ≤ W0.heap.size := HB0.out.size
      have HSI := Aside0.mk (startPairs_in HOK.out)
      obtain ⟨_, _, q0, _, _, _, _, _, _⟩ := HBS0.out.cells
      refine (closed_calls l HOK.out hln Al cl0 (wL.heap.size + 1) A6 c6 (startPairs l) l.length HLP.out (by rw [HLP.out]; omega) _ q0 (HL.out _ HB0.out) (by have := (Kd.R_reads' HO0.out).2.2; rwa [HLP.out] at this) HSI.out).mono ?_
      rintro e3 w3 ⟨v3, rfl, hR3, hb3⟩
      clear q0
      have hcl := closedL_len HOK.out (startPairs l)
      have hpb := prB_of HOK.out hln (inP_closedL l (startPairs l))
      have hcd : closedL l (startPairs l) = startSet l := rfl
      rw [hcd] at hR3 hcl hpb
      obtain ⟨C, hC⟩ : ∃ C, C = startSet l := ⟨_, rfl⟩
      rw [← hC] at hR3 hcl hpb
      have hcn : C.length ≤ 48000 := by omega
      have HC := Aside0.mk hC
      have HPB := Aside0.mk hpb
      obtain ⟨A3, c3, rfl⟩ := Kd.R_slice hR3
      have HR3 := Aside0.mk (Kd.R_lower hR3 hwb0)
      have HB3 := Aside0.mk (HB0.out.trans (hb3.mono hwb0))
      have HX3 := Aside0.mk ((hb3.block _ (box_lt HX0.out)).trans HX0.out)
      have HBS3 := Aside0.mk (HBS0.out.later hb3)
      have hw3 : w.heap.size ≤ w3.heap.size := HB3.out.size
      clear hC hR3 hb3 hcl hpb hcd HBS0 HX0 HO0
      go_wp2_with fail
      refine (number_calls w.heap.size (wL.heap.size + 1) wL.heap.size _ [] C A3 c3 w3 HBS3.out HR3.out (by omega) HPB.out (by simp) (HT.out _ HB3.out) hw3).mono ?_
      rintro e4 w4 ⟨i4, rfl, hcase, hf4⟩
      rcases hcase with ⟨h1, _⟩ | ⟨_, _, hbs4⟩
      · cases h1
      rw [List.nil_append] at hbs4
      have hx4 := hf4.cell (p := ⟨w.heap.size, 0, none⟩) HX3.out (by decide) (by decide)
      have HB4 := Aside0.mk (HB3.out.trans hf4.below)
      have hw4 : w.heap.size ≤ w4.heap.size := HB4.out.size
      have hb5 : Below w4.heap.size w4 (w4.alloc (.cells #[.int .i64 0, .slice none 0 0, .slice none 0 0] 28)) := below_alloc (Below.refl _ _) _
      have HB5 := Aside0.mk (HB4.out.trans (hb5.mono hw4))
      have HX5 := Aside0.mk ((hb5.block _ (box_lt hx4)).trans hx4)
      have HBS5 := Aside0.mk (hbs4.later hb5)
      have HOB5 := Aside0.mk (show OB (w4.alloc (.cells #[.int .i64 0, .slice none 0 0, .slice none 0 0] 28)) w.heap.size w4.heap.size (.slice none 0 0) (.slice none 0 0) [] [] from ⟨heap_alloc_new w4 _, Kd.R_nil _ _ _ _ _, Kd.R_nil _ _ _ _ _⟩)
      have HPI := Aside0.mk (pInv_start HOK.out HNE.out)
      have hob : w.heap.size < w4.heap.size := box_lt hx4
      clear hbs4 hx4 hf4 HBS3 HR3 HX3
      go_wp2
      go_loopw [9] (fun iv wr => ∃ i : Nat, iv = .int .i64 i ∧ Aside0 (∃ sets arcs labs va vl, BS wr w.heap.size (wL.heap.size + 1) wL.heap.size (.slice Al l.length cl0) sets ∧ PInv l sets arcs labs ∧ arcs.length = i ∧ i ≤ sets.length ∧ sets.length ≤ 3000 ∧ OB wr w.heap.size w4.heap.size va vl arcs labs) ∧
        Aside0 (wr.heap[w.heap.size]? = some (.cells #[.int .i64 0, .slice none 0 0, .slice none 0 0] 28 (0, 0))) ∧ Aside0 (Below w.heap.size w wr)) (fun iv _ => 3001 - (intOf iv).toNat)
      case atStart => exact ⟨0, rfl, ⟨[startSet l], [], [], _, _, by rw [← HC.out]; exact HBS5.out, HPI.out, rfl, by simp, by simp, HOB5.out⟩, HX5, HB5⟩
      case round =>
        obtain ⟨i, rfl, HQ, HX, HB⟩ := hrel
        obtain ⟨sets, arcs, labs, va, vl, hbs, hpi, hai, hil, hsl, hob2⟩ := HQ.out
        obtain ⟨As, cs, q0, q1, q2, _, qlt, qbx, qsr⟩ := hbs.cells
        by_cases hlt : i < sets.length
        · obtain ⟨gs, cs2, e, hgs, _, _⟩ := Kd.R_form qsr (by omega)
          cases e
          obtain ⟨cz, _, hM, hcz, _⟩ := Kd.R_elem qsr [] (i : Int) (by omega) (by omega)
          obtain ⟨vS, rfl, hRS⟩ := hM
          rw [Int.toNat_natCast] at hRS hcz
          have hc0 := hcz 0 _ rfl
          rw [show i * kSets.sz + 0 = i by show i * 1 + 0 = i; omega] at hc0
          have hSi : sets[i]? = some (sets.getD i []) := by rw [List.getD_eq_getElem?_getD, List.getElem?_eq_getElem hlt]; rfl
          obtain ⟨S, hS⟩ : ∃ S, S = sets.getD i [] := ⟨_, rfl⟩
          rw [← hS] at hRS hSi
          obtain ⟨AS, cS, rfl⟩ := Kd.R_slice hRS
          obtain ⟨hSin, hSne, u, hu, huS⟩ := hpi.from_ S (List.mem_of_getElem? hSi)
          have hmS : (movesOf l S).length ≤ 6 := by rw [← huS]; exact HMV.out u hu
          have hrS : ∀ p ∈ S, (rowAt l p).length ≤ 4294967296 := fun p hp => by
            obtain ⟨k, h1, h2, _⟩ := hSin p hp
            have e0 : p.which.toNat = k := by omega
            unfold rowAt Nf.arc
            rw [e0, List.getD_eq_getElem?_getD]
            cases hh : (l.getD k default).arcs[p.state.toNat]? with
            | none => simp
            | some r => exact HROW.out _ (by rw [List.getD_eq_getElem?_getD, List.getElem?_eq_getElem h1]; exact List.getElem_mem h1) r (List.mem_of_getElem? hh)
          have HBS := Aside0.mk hbs
          have HPI2 := Aside0.mk hpi
          have HOB := Aside0.mk hob2
          have HCS := Aside0.mk (Kd.R_reads' hRS).2.2
          have HSIN := Aside0.mk hSin
          have HMS := Aside0.mk hmS
          have HRS := Aside0.mk hrS
          have HSI2 := Aside0.mk hSi
          have HAI := Aside0.mk hai
          have hwr : w.heap.size ≤ wr.heap.size := HB.out.size
          have hi1 : (i : Int) < (sets.length : Int) := by omega
          have hli : i < 3000 := by omega
          clear hbs hpi hob2 hcz hRS hS hSin hSne hu huS hmS hrS qsr qbx hSi hai HQ
          go_wp2_with fail
          refine (arcs_calls w.heap.size (wL.heap.size + 1) wL.heap.size l HOK.out hln Al cl0 sets S AS cS wr HBS.out (fun w' hb => HL.out w' (HB.out.trans hb)) HCS.out HSIN.out HMS.out HRS.out hsl HPI2.out.nodup (fun w' hb => HT.out w' (HB.out.trans hb)) hwr).mono ?_
          rintro e5 w5 ⟨vR, rfl, es, row, sets2, hRow, hE, hPR, hbs5, hfr5⟩
          have hpre : ∃ t, sets2 = sets ++ t := hPR.pre
          have hPI5 := pInv_row HPI2.out HOK.out (S := S) (by rw [HAI.out]; exact HSI2.out) hE hPR
          have hS2 : sets2[i]? = some S := by
            obtain ⟨t, rfl⟩ := hpre
            rw [List.getElem?_append_left hlt]
            exact HSI2.out
          have hlt2 : i < sets2.length := (List.getElem?_eq_some_iff.1 hS2).1
          have hob5 := HOB.out.fr hfr5
          have hx5 := hfr5.cell (p := ⟨w.heap.size, 0, none⟩) HX.out (by decide) (by decide)
          have hb5 := HB.out.trans hfr5.below
          have hw5 : w.heap.size ≤ w5.heap.size := hb5.size
          obtain ⟨AR, cR, rfl⟩ := Kd.R_slice hRow
          have HRow := Aside0.mk (Kd.R_tight rfl (Kd.R_lower hRow hwr))
          have HPI5 := Aside0.mk hPI5
          have HS2 := Aside0.mk hS2
          have HOB5 := Aside0.mk hob5
          have HX5' := Aside0.mk hx5
          have HB5' := Aside0.mk hb5
          have HBS5' := Aside0.mk hbs5
          have o0 := put3_cells hob5.box
          obtain ⟨o00, o01, o02⟩ := o0
          have hra := hob5.ra
          obtain ⟨Aa, ca, rfl⟩ := Kd.R_slice hra
          have hoka : ∀ k, some k = (Value.slice AR row.length cR).ownBlock → True ∧ some k ≠ (Value.slice Aa arcs.length ca).ownBlock := fun k hk => by
            obtain ⟨cells, hc⟩ := Kd.R_typed HRow.out k hk.symm
            exact ⟨trivial, Kd.R_ne hra hc (by decide)⟩
          have HOKAA := Aside0.mk hoka
          have haa : arcs.length ≤ 3000 := by rw [HAI.out]; omega
          have HPI5L := Aside0.mk (show labs.length = i from by rw [HPI2.out.lenl, HAI.out])
          clear hRow hE hPR hbs5 hfr5 hpre hPI5 hS2 hob5 hx5 hb5 hra hoka HBS HPI2 HOB HX q0 q1 q2 hc0
          go_wp2_with (at_builtin; refine Kd.R_append kArcs (w0 := w) w.heap.size rfl _ _ 25 50 (.slice none 0 0) 24 rfl Tryd.underlying25 infoArcs rfl (by decide) (by decide) (.slice Aa arcs.length ca) arcs row [.slice AR row.length cR] (fun _ => True) (fun q => some q = (Value.slice AR row.length cR).ownBlock) rfl (by first | (go_simp; done) | (go_simp; rfl)) ⟨_, rfl, HRow.out⟩ HOKAA.out (fun _ _ => trivial) ?aO ?aB ?aS ?aL ?_; (case aO => exact HOB5.out.ra); (case aB => exact HB5'.out); (case aS => omega); (case aL => omega); intro v6 w6 hR hB hg hat; obtain ⟨A6', c6', rfl⟩ := Kd.R_slice hR; have HR6 := Aside0.mk hR; have HB6 := Aside0.mk hB; have HG6 := Aside0.mk hg; have hbs6 := HBS5'.out.other (Kd.R_typed HOB5.out.ra) (by decide) (by decide) (by decide) hg; obtain ⟨As6, cs6, q0, q1, q2, _, qlt, qbx, qsr⟩ := hbs6.cells; obtain ⟨gs6, cs7, e6, _, _, _⟩ := Kd.R_form qsr (by omega); cases e6; obtain ⟨cz, _, hM, hcz, _⟩ := Kd.R_elem qsr [] (i : Int) (by omega) (by omega); obtain ⟨vS, rfl, hRS⟩ := hM; rw [Int.toNat_natCast] at hRS hcz; have hc0 := hcz 0 _ rfl; rw [show i * kSets.sz + 0 = i from (show i * 1 + 0 = i by omega)] at hc0; have hSg : sets2.getD i [] = S := (by rw [List.getD_eq_getElem?_getD, HS2.out]; rfl); rw [hSg] at hRS; obtain ⟨AS6, cS6, rfl⟩ := Kd.R_slice hRS; have HCS6 := Aside0.mk (Kd.R_reads' hRS).2.2; have HBS6 := Aside0.mk hbs6; have Q0 := Aside0.mk q0; clear hR hB hg hat hbs6 hcz hRS hSg qsr qbx)
          have hb6s : w.heap.size ≤ w6.heap.size := HB6.out.size
          have hx6 := (HG6.out.block _ (box_lt HX5'.out) (Kd.R_ne HOB5.out.ra HX5'.out (by decide))).trans HX5'.out
          have hbx6 := (HG6.out.block _ (box_lt HOB5.out.box) (Kd.R_ne HOB5.out.ra HOB5.out.box (by decide))).trans HOB5.out.box
          have hrl6 := Kd.R_over' HOB5.out.rl (Kd.R_typed HOB5.out.ra) (fun q hq => by rw [int_E hq]; decide) HG6.out
          have HX6 := Aside0.mk hx6
          have HBX6 := Aside0.mk hbx6
          have HRL6 := Aside0.mk hrl6
          clear hx6 hbx6 hrl6 o00 o01 o02 q1 q2 hc0
          refine (label_calls l Al cl0 (wL.heap.size + 1) AS6 cS6 S w6 Q0.out (HL.out _ HB6.out) HCS6.out HSIN.out).mono ?_
          rintro e7 w7 ⟨rfl, hb7⟩
          have hbx7 := (hb7.block _ (box_lt HBX6.out)).trans HBX6.out
          have hx7 := (hb7.block _ (box_lt HX6.out)).trans HX6.out
          have hrl7 := Kd.R_below HRL6.out hb7
          have hra7 := Kd.R_below HR6.out hb7
          have hbs7 := HBS6.out.later hb7
          have hbb7 := HB6.out.trans (hb7.mono hb6s)
          have hb7s : w.heap.size ≤ w7.heap.size := hbb7.size
          obtain ⟨o0, o1, o2⟩ := put3_cells hbx7
          obtain ⟨Av, cv, rfl⟩ := Kd.R_slice hrl7
          have hll : labs.length ≤ 3000 := by rw [HPI5L.out]; omega
          obtain ⟨y, hy⟩ : ∃ y, y = labelL l S := ⟨_, rfl⟩
          rw [← hy] at HPI5 ⊢
          have HBX7 := Aside0.mk hbx7
          have HX7 := Aside0.mk hx7
          have HRL7 := Aside0.mk hrl7
          have HRA7 := Aside0.mk hra7
          have HBS7 := Aside0.mk hbs7
          have HBB7 := Aside0.mk hbb7
          clear hy hbx7 hx7 hrl7 hra7 hbs7 hbb7 hb7 HBS6 HRL6 HBX6 HX6
          go_wp2_with (at_builtin; refine Kd.R_append (Kd.int .i64) (w0 := w) w.heap.size rfl _ _ 26 3 (.int .i64 0) 8 rfl Tryd.underlying26 infoInt rfl (by decide) (by omega) (.slice Av labs.length cv) labs y [.int .i64 y] (fun _ => True) (fun _ => False) rfl (by first | (go_simp; done) | (go_simp; rfl)) rfl (fun _ hk => hk.elim) (fun _ _ => trivial) ?aO ?aB ?aS ?aL ?_; (case aO => exact HRL7.out); (case aB => exact HBB7.out); (case aS => omega); (case aL => omega); intro v8 w8 hR hB hg hat; obtain ⟨A8, c8, rfl⟩ := Kd.R_slice hR; have hbx8 := (hg.block _ (box_lt HBX7.out) (Kd.R_ne HRL7.out HBX7.out (by decide))).trans HBX7.out; have hx8 := (hg.block _ (box_lt HX7.out) (Kd.R_ne HRL7.out HX7.out (by decide))).trans HX7.out; have hra8 := Kd.R_over' HRA7.out (Kd.R_typed HRL7.out) (fun q hq => by rcases arcs_E hq with h | h <;> rw [h] <;> decide) hg; have hbs8 := HBS7.out.other (Kd.R_typed HRL7.out) (by decide) (by decide) (by decide) hg; obtain ⟨p0, p1, p2⟩ := put3_cells hbx8; have f1 := (blk_frozen hbx8 1); have f2 := (blk_frozen hbx8 2); obtain ⟨As8, cs8, _, g1, _, _, _, gbx, _⟩ := hbs8.cells; have hnb := (ty_ne gbx hbx8 (by decide)); have hnb2 := (fun (e : w4.heap.size = wL.heap.size + 1) => hnb e.symm); have hnw1 : ¬ (w.heap.size = w4.heap.size) := (by omega); have hnw2 : ¬ (w4.heap.size = w.heap.size) := (by omega); obtain ⟨v0, v1, v2⟩ := put3_cells hx8; have k0 := (blk_frozen hx8 0); have k1 := (blk_frozen hx8 1); have k2 := (blk_frozen hx8 2); have HR8 := Aside0.mk hR; have HB8 := Aside0.mk hB; have HBX8 := Aside0.mk hbx8; have HX8 := Aside0.mk hx8; have HRA8 := Aside0.mk hra8; have HBS8 := Aside0.mk hbs8; have HNB := Aside0.mk hnb2; clear hR hB hg hat hbx8 hx8 hra8 hbs8 gbx o0 o1 o2)
          · have h3000 : 3000 < sets2.length := by omega
            have hx9 : ((w8.setCell ⟨w4.heap.size, 1, none⟩ (.slice A6' (arcs.length + 1) c6')).setCell ⟨w4.heap.size, 2, none⟩ (.slice A8 (labs.length + 1) c8)).heap[w.heap.size]? = some (.cells #[.int .i64 0, .slice none 0 0, .slice none 0 0] 28 (0, 0)) := by
              rw [Below.heap_setCell _ _ _ _ hnw1, Below.heap_setCell _ _ _ _ hnw1]
              exact HX8.out
            have HP := put3 hx9 (.int .i64 0) (.slice none 0 0) (.slice none 0 0)
            have hPB := ((((HB8.out.setCell (p := ⟨w4.heap.size, 1, none⟩) (Nat.le_of_lt hob) (.slice A6' (arcs.length + 1) c6')).setCell (p := ⟨w4.heap.size, 2, none⟩) (Nat.le_of_lt hob) (.slice A8 (labs.length + 1) c8)).setCell (p := ⟨w.heap.size, 0, none⟩) (Nat.le_refl _) (.int .i64 0)).setCell (p := ⟨w.heap.size, 1, none⟩) (Nat.le_refl _) (.slice none 0 0)).setCell (p := ⟨w.heap.size, 2, none⟩) (Nat.le_refl _) (.slice none 0 0)
            generalize hWF : (((((w8.setCell ⟨w4.heap.size, 1, none⟩ (.slice A6' (arcs.length + 1) c6')).setCell ⟨w4.heap.size, 2, none⟩ (.slice A8 (labs.length + 1) c8)).setCell ⟨w.heap.size, 0, none⟩ (.int .i64 0)).setCell ⟨w.heap.size, 1, none⟩ (.slice none 0 0)).setCell ⟨w.heap.size, 2, none⟩ (.slice none 0 0)) = WF at HP hPB ⊢
            obtain ⟨p0, p1, p2⟩ := put3_cells HP
            refine bodyPost_ret (v := .tuple #[.agg #[.int .i64 0, .slice none 0 0, .slice none 0 0], .int .i64 5]) (by simp [results, Tryd.results13, go_sem, p0, p1, p2]) rfl ?_
            exact .inr ⟨sets2, arcs ++ [row], labs ++ [y], HPI5.out, h3000, rfl, hPB⟩
          · go_roundw
            case rel =>
              have e1 : (arcs ++ [row]).length = arcs.length + 1 := by simp
              have e2 : (labs ++ [y]).length = labs.length + 1 := by simp
              have hra := HRA8.out
              have hrl := HR8.out
              rw [e1] at hra
              rw [e2] at hrl
              have hob9 := OB.close HBX8.out hra hrl
              have hb1 : (w8.setCell ⟨w4.heap.size, 1, none⟩ (.slice A6' (arcs.length + 1) c6')).heap[w4.heap.size]? = some (.cells #[.int .i64 0, .slice A6' (arcs.length + 1) c6', .slice Av labs.length cv] 28 (0, 0)) := by simp [World.setCell, Array.getElem?_modify, HBX8.out]
              refine ⟨i + 1, by go_num, ⟨sets2, arcs ++ [row], labs ++ [y], _, _, (HBS8.out.put HBX8.out 1 _).put hb1 2 _, HPI5.out, by rw [e1, HAI.out], by omega, by omega, hob9⟩, ⟨?_⟩, ⟨(HB8.out.setCell (p := ⟨w4.heap.size, 1, none⟩) (Nat.le_of_lt hob) _).setCell (p := ⟨w4.heap.size, 2, none⟩) (Nat.le_of_lt hob) _⟩⟩
              rw [Below.heap_setCell _ _ _ _ hnw1, Below.heap_setCell _ _ _ _ hnw1]
              exact HX8.out
            case measure => simp [intOf]; omega
        · have hie : arcs.length = sets.length := by omega
          obtain ⟨hokD, hrunD⟩ := pInv_end hpi hie hsl
          have harc : ∀ r ∈ arcs, r.length ≤ 4294967296 := fun r hr => by
            have h1 := okA_count (hokD.arcs r hr) (by omega)
            omega
          have hlab : ∀ y ∈ labs, y ≤ 9223372036854775807 := fun y hy => by
            obtain ⟨j, hj, rfl⟩ := List.mem_iff_getElem.1 hy
            have hj2 : j < arcs.length := by rw [← hpi.lenl]; exact hj
            obtain ⟨S, h1, h2, _⟩ := hpi.rows j _ (List.getElem?_eq_getElem hj2)
            rw [List.getElem?_eq_getElem hj] at h2
            injection h2 with h2
            rw [h2]
            rcases labelL_lt (hpi.from_ S (List.mem_of_getElem? h1)).1 with h | h <;> omega
          obtain ⟨o0, o1, o2⟩ := put3_cells hob2.box
          have hra := hob2.ra
          have hrl := hob2.rl
          obtain ⟨A1, c1, rfl⟩ := Kd.R_slice hra
          obtain ⟨A2, c2, rfl⟩ := Kd.R_slice hrl
          have hrd : RdD wr ⟨0, arcs, labs⟩ A1 c1 A2 c2 := RO.rd (m := ⟨0, arcs, labs⟩) ⟨hra, hrl⟩
          have hlt2 : ¬ ((i : Int) < (sets.length : Int)) := by omega
          have HRD := Aside0.mk hrd
          have HOKD := Aside0.mk hokD
          have HARC := Aside0.mk harc
          have HLAB := Aside0.mk hlab
          have HPI3 := Aside0.mk (And.intro hpi (And.intro hie hsl))
          have hwr : w.heap.size ≤ wr.heap.size := HB.out.size
          clear hokD hrunD harc hlab hra hrl hrd hpi hie hai hob2 hbs HQ qsr qbx
          go_wp2_with fail
          refine (minimize_calls ⟨0, arcs, labs⟩ HOKD.out A1 c1 A2 c2 wr HRD.out HARC.out HLAB.out (HT.out _ HB.out)).mono ?_
          rintro e9 w9 ⟨m, B1, k1, B2, k2, rfl, hro, hmin, hb9⟩
          have hx9 := (hb9.block _ (box_lt HX.out)).trans HX.out
          obtain ⟨v0, v1, v2⟩ := put3_cells hx9
          have f0 := blk_frozen hx9 0
          have f1 := blk_frozen hx9 1
          have f2 := blk_frozen hx9 2
          have hm0 : m.start = 0 := by
            rcases hmin with ⟨_, h⟩ | ⟨_, h, _⟩
            · rw [h]
            · exact h
          have HRO := Aside0.mk (RO.put3 hro hx9 (.int .i64 0) (.slice B1 m.arcs.length k1) (.slice B2 m.labels.length k2))
          have HMIN := Aside0.mk hmin
          have HP := Aside0.mk (put3 hx9 (.int .i64 0) (.slice B1 m.arcs.length k1) (.slice B2 m.labels.length k2))
          have HB9 := Aside0.mk ((((HB.out.trans (hb9.mono hwr)).setCell (p := ⟨w.heap.size, 0, none⟩) (Nat.le_refl _) (.int .i64 0)).setCell (p := ⟨w.heap.size, 1, none⟩) (Nat.le_refl _) (.slice B1 m.arcs.length k1)).setCell (p := ⟨w.heap.size, 2, none⟩) (Nat.le_refl _) (.slice B2 m.labels.length k2))
          have HM0 := Aside0.mk hm0
          rw [hm0]
          clear hro hmin hx9 hb9 hm0
          go_wp2
          have hro := HRO.out
          have hp := HP.out
          have hb := HB9.out
          generalize hWF : (((w9.setCell ⟨w.heap.size, 0, none⟩ (.int .i64 0)).setCell ⟨w.heap.size, 1, none⟩ (.slice B1 m.arcs.length k1)).setCell ⟨w.heap.size, 2, none⟩ (.slice B2 m.labels.length k2)) = WF at hro hp hb ⊢
          obtain ⟨p0, p1, p2⟩ := put3_cells hp
          refine bodyPost_ret (v := .tuple #[.agg #[.int .i64 0, .slice B1 m.arcs.length k1, .slice B2 m.labels.length k2], .int .i64 0]) (by simp [results, Tryd.results13, go_sem, p0, p1, p2]) rfl ?_
          exact .inl ⟨sets, arcs, labs, HPI3.out.1, HPI3.out.2.1, HPI3.out.2.2, m, B1, k1, B2, k2, by rw [HM0.out], ⟨Kd.R_lower hro.a hwr, Kd.R_lower hro.l hwr⟩, HMIN.out, hb⟩
end Go.Proofs.YthohahcpdgebbaaDoor.Wk
