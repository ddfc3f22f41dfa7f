/- Proved: what a part of the given program (its deterministic automata, and the functions that they call) computes, and laws on that, under the conditions that each theorem names. -/
import Derived.Test.YthohahcpdgebbaaDoorJNfa
import Derived.Test.YthohahcpdgebbaaDoorJCls
import Derived.Test.YthohahcpdgebbaaDoorJThy
import Derived.Test.YthohahcpdgebbaaDoorRows
import Derived.ProofKit
import Derived.OpenShut
import Derived.Test.YthohahcpdgebbaaDoorJTxt
import Derived.LaidMore
import Derived.Stop.Joined
import Derived.Lib.LaidTab
import Derived.MakeChecks
import Derived.Stop.LaidErr
namespace Go.Proofs.YthohahcpdgebbaaDoor.Wk
open Go.RowKit Go.Proofs.YthohahcpdgebbaaDoorW.PrintWords Go.Proofs.YthohahcpdgebbaaDoorW.PrintLast Go.Proofs.YthohahcpdgebbaaDoorW.PrintMore
open Go.Proofs.YthohahcpdgebbaaDoor.Th
set_option linter.unusedVariables false
set_option linter.unusedSimpArgs false
def kPr : Kd Pr := Kd.iso (Kd.pair (Kd.int .i64) (Kd.int .i64)) (fun x : Pr => (x.which, x.state))
theorem kPr_open {w : World} {x : Pr} {cs : List Value} (h : kPr.K w x cs) : cs = [.int .i64 x.which, .int .i64 x.state] := by
  obtain ⟨_, _, rfl, rfl, rfl⟩ := h
  rfl
theorem kPr_mkM (w : World) (base : Nat) (ok : Nat → Prop) (x : Pr) : kPr.M w base ok x [.int .i64 x.which, .int .i64 x.state] := ⟨[.int .i64 x.which], [.int .i64 x.state], rfl, rfl, rfl⟩
theorem infoPr : (Tryd.prog.info? 58).map (fun i => (i.zero, i.size, i.bytes)) = some (some (.agg #[.int .i64 0, .int .i64 0]), 2, 16) := by kernel_rfl
theorem at_pr {w : World} {A : Option Addr} {n : Nat} {xs : List Pr} (h : Kd.C kPr w A n xs) (i : Nat) (hi : i < n) :
    ∃ b o, A = some ⟨b, o, none⟩ ∧ b < w.heap.size ∧ w.cell? ⟨b, o + i * 2, none⟩ = some (.int .i64 (xs.getD i default).which) ∧ w.cell? ⟨b, o + i * 2 + 1, none⟩ = some (.int .i64 (xs.getD i default).state) := by
  obtain ⟨b, o, e, hb, hc⟩ := C_lit h (by omega) (by decide) default
  obtain ⟨c, _, hK, hc⟩ := hc i hi
  obtain rfl := kPr_open hK
  exact ⟨b, o, e, hb, hc 0 _ rfl, hc 1 _ rfl⟩
def kNf : Kd Nf := Kd.iso (Kd.pair (Kd.pair (Kd.int .i64) (Kd.int .i64)) (Kd.pair (Kd.slice 50 kArcs) (Kd.slice 26 kInts))) (fun a : Nf => ((a.start, a.acc), (a.arcs, a.empty)))
theorem kNf_open {w : World} {x : Nf} {cs : List Value} (h : kNf.K w x cs) : ∃ A1 c1 A2 c2, cs = [.int .i64 x.start, .int .i64 x.acc, .slice A1 x.arcs.length c1, .slice A2 x.empty.length c2] ∧ RdN w x A1 c1 A2 c2 := by
  obtain ⟨_, _, rfl, ⟨_, _, rfl, rfl, rfl⟩, ⟨_, _, rfl, ⟨A1, c1, rfl, l1, g1⟩, ⟨A2, c2, rfl, l2, g2⟩⟩⟩ := h
  exact ⟨A1, c1, A2, c2, rfl, g1, g2, l1, l2⟩
theorem at_nf {w : World} {A : Option Addr} {n : Nat} {xs : List Nf} (h : Kd.C kNf w A n xs) (i : Nat) (hi : i < n) :
    ∃ b o A1 c1 A2 c2, A = some ⟨b, o, none⟩ ∧ b < w.heap.size ∧ w.cell? ⟨b, o + i * 4, none⟩ = some (.int .i64 (xs.getD i default).start) ∧ w.cell? ⟨b, o + i * 4 + 1, none⟩ = some (.int .i64 (xs.getD i default).acc) ∧
      w.cell? ⟨b, o + i * 4 + 2, none⟩ = some (.slice A1 (xs.getD i default).arcs.length c1) ∧ w.cell? ⟨b, o + i * 4 + 3, none⟩ = some (.slice A2 (xs.getD i default).empty.length c2) ∧ RdN w (xs.getD i default) A1 c1 A2 c2 := by
  obtain ⟨b, o, e, hb, hc⟩ := C_lit h (by omega) (by decide) default
  obtain ⟨c, _, hK, hc⟩ := hc i hi
  obtain ⟨A1, c1, A2, c2, rfl, hr⟩ := kNf_open hK
  exact ⟨b, o, A1, c1, A2, c2, e, hb, hc 0 _ rfl, hc 1 _ rfl, hc 2 _ rfl, hc 3 _ rfl, hr⟩
theorem take_next {α : Type} {l : List α} {k : Nat} (z : α) (h : k < l.length) : l.take (k + 1) = l.take k ++ [l.getD k z] := by
  rw [List.take_succ_eq_append_getElem h, List.getD_eq_getElem?_getD, List.getElem?_eq_getElem h]
  rfl
theorem getD_in {α : Type} {l : List α} {k : Nat} (z : α) (h : k < l.length) : l.getD k z ∈ l := by
  rw [List.getD_eq_getElem?_getD, List.getElem?_eq_getElem h]
  exact List.getElem_mem h
theorem labelL_take (l : List Nf) {set : List Pr} {k : Nat} (hk : k < set.length) (hn : ∀ p ∈ set.take k, (l.getD p.which.toNat default).acc ≠ p.state) :
    ((l.getD (set.getD k default).which.toNat default).acc = (set.getD k default).state → labelL l set = (set.getD k default).which) := by
  intro he
  have e : set = set.take k ++ (set.getD k default :: set.drop (k + 1)) := by
    rw [List.getD_eq_getElem?_getD, List.getElem?_eq_getElem hk]
    exact (List.take_append_drop k set).symm.trans (by rw [List.drop_eq_getElem_cons hk]; rfl)
  have h0 : (set.take k).find? (fun p => decide ((l.getD p.which.toNat default).acc = p.state)) = none := by
    rw [List.find?_eq_none]
    intro p hp
    simpa using hn p hp
  unfold labelL
  generalize set.getD k default = p at e he
  rw [e, List.find?_append, h0, List.find?_cons]
  rw [decide_eq_true he]
  rfl
theorem labelL_none (l : List Nf) {set : List Pr} (hn : ∀ p ∈ set, (l.getD p.which.toNat default).acc ≠ p.state) : labelL l set = -1 := by
  unfold labelL
  rw [List.find?_eq_none.2 (fun p hp => by simpa using hn p hp)]
set_option maxHeartbeats 4000000 in
set_option maxRecDepth 100000 in
theorem label_calls (l : List Nf) (A : Option Addr) (c : Nat) (bp : Nat) (A1 : Option Addr) (c1 : Nat) (set : List Pr) (w : World) (hbx : w.cell? ⟨bp, 0, none⟩ = some (.slice A l.length c)) (hl : kNf.C w A l.length l) (hs : kPr.C w A1 set.length set) (hin : InP l set) :
    Calls Tryd.prog 32 #[.pointer (some ⟨bp, 0, none⟩), .slice A1 set.length c1] w fun e w' => e = .returned (.int .i64 (labelL l set)) ∧ Below w.heap.size w w' := by
  have HL := Aside0.mk hl
  have HS := Aside0.mk hs
  have HI := Aside0.mk hin
  have hsl : set.length ≤ 9223372036854775807 := hs.2.1
  have hbl := World.block_lt_of_cell? w _ hbx
  clear hl hs hin
  go_enter Tryd.func32, Tryd.ntmps32
  go_wp2
  go_loopw [9] (fun i wr => ∃ k : Nat, k ≤ set.length ∧ i = .int .i64 k ∧ Aside0 (∀ p ∈ set.take k, (l.getD p.which.toNat default).acc ≠ p.state) ∧ Aside0 (Below w.heap.size w wr)) (fun i _ => set.length - (intOf i).toNat)
  case atStart => exact ⟨0, by omega, rfl, ⟨fun p hp => by simp at hp⟩, ⟨Below.refl _ _⟩⟩
  case round =>
    obtain ⟨k, hk, rfl, HN, HB⟩ := hrel
    by_cases hlt : k < set.length
    · have x0 := (HB.out.cell (p := ⟨bp, 0, none⟩) hbl).trans hbx
      obtain ⟨b1, o1, e, hb1, hc0, hc1⟩ := at_pr (Kd.C_below HS.out HB.out) k hlt
      cases e
      obtain ⟨i, hi, hw, hs0, hs1⟩ := HI.out _ (getD_in default hlt)
      have htk := take_next (default : Pr) hlt
      have hlk := labelL_take l hlt HN.out
      obtain ⟨p, hp⟩ : ∃ p, p = set.getD k default := ⟨_, rfl⟩
      rw [← hp] at hc0 hc1 hw hs0 hs1 htk hlk
      obtain ⟨b2, o2, A2, c2, A3, c3, e, hb2, _, hd1, _, _, _⟩ := at_nf (Kd.C_below HL.out HB.out) i hi
      cases e
      have e0 : (p.which.toNat : Nat) = i := by omega
      rw [e0] at hlk
      obtain ⟨a, ha⟩ : ∃ a, a = l.getD i default := ⟨_, rfl⟩
      rw [← ha] at hd1 hlk
      have HW := Aside0.mk hw
      have HLK := Aside0.mk hlk
      have HTK := Aside0.mk htk
      have HA := Aside0.mk ha
      have HE0 := Aside0.mk e0
      rw [hw] at hc0
      clear hp hw hs0 hs1 htk hlk ha e0
      have hi0 : 0 ≤ (i : Int) := by omega
      have hi1 : (i : Int) < (l.length : Int) := by omega
      have lt0 : bp < wr.heap.size := World.block_lt_of_cell? _ _ x0
      have ne0 := World.new_ne _ _ x0
      have ne1 := World.new_ne _ _ hd1
      by_cases he : a.acc = p.state
      · have heb : (a.acc == p.state) = true := beq_iff_eq.2 he
        have HF := Aside0.mk (HLK.out he)
        clear he
        go_wp2_with fail
        go_quiet (fail)
        go_wp2
        go_ret
        exact ⟨by rw [HF.out, HW.out]; rfl, pw_below_drewN (below_alloc HB.out _) _⟩
      · have heb : (a.acc == p.state) = false := beq_eq_false_iff_ne.2 he
        have HF := Aside0.mk (show ∀ q ∈ set.take (k + 1), (l.getD q.which.toNat default).acc ≠ q.state from fun q hq => by
          rw [HTK.out] at hq
          rcases List.mem_append.1 hq with hq | hq
          · exact HN.out q hq
          · rw [List.mem_singleton.1 hq, HE0.out, ← HA.out]
            exact he)
        clear he
        go_wp2_with fail
        go_quiet (fail)
        go_wp2
        go_roundw
        case rel => exact ⟨k + 1, by omega, by go_num, HF, ⟨pw_below_drewN (below_alloc HB.out _) _⟩⟩
        case measure => simp [intOf]; omega
    · obtain rfl : k = set.length := by omega
      rw [List.take_length] at HN
      have HF := Aside0.mk (labelL_none l HN.out)
      go_wp2
      go_ret
      exact ⟨by rw [HF.out]; rfl, HB.out⟩
noncomputable def closedK (l : List Nf) (set : List Pr) (k : Nat) : List Pr := (List.range k).flatMap (closedAt l set)
theorem closedK_succ (l : List Nf) (set : List Pr) (k : Nat) : closedK l set (k + 1) = closedK l set k ++ closedAt l set k := by
  unfold closedK
  rw [List.range_succ, List.flatMap_append]
  simp
theorem clo_len (a : Nf) (S : List Int) : (clo a S).length ≤ a.n := by
  unfold clo
  exact Nat.le_trans (List.length_filter_le _ _) (by simp)
theorem closedAt_len {l : List Nf} (hl : OkL l) (set : List Pr) {k : Nat} (hk : k < l.length) : (closedAt l set k).length ≤ 3000 := by
  unfold closedAt
  rw [List.length_map]
  exact Nat.le_trans (clo_len _ _) (hl.at hk).lim
theorem closedK_len {l : List Nf} (hl : OkL l) (set : List Pr) : ∀ {k : Nat}, k ≤ l.length → (closedK l set k).length ≤ 3000 * k
  | 0, _ => by simp [closedK]
  | k + 1, h => by
    have h1 := closedK_len hl set (k := k) (by omega)
    have h2 := closedAt_len hl set (k := k) (by omega)
    rw [closedK_succ, List.length_append]
    omega
theorem statesOf_next {set : List Pr} {i : Int} {j : Nat} (hj : j < set.length) : statesOf (set.take (j + 1)) i = statesOf (set.take j) i ++ (if (set.getD j default).which = i then [(set.getD j default).state] else []) := by
  rw [take_next default hj]
  unfold statesOf
  rw [List.filter_append, List.map_append]
  congr 1
  rw [List.filter_cons]
  by_cases h : (set.getD j default).which = i
  · rw [if_pos h, if_pos (by simpa using h)]
    rfl
  · rw [if_neg h, if_neg (by simpa using h)]
    rfl
theorem statesOf_len (set : List Pr) (i : Int) : (statesOf set i).length ≤ set.length := by
  unfold statesOf
  rw [List.length_map]
  exact List.length_filter_le _ _
set_option maxHeartbeats 8000000 in
set_option maxRecDepth 100000 in
theorem closed_calls (l : List Nf) (hok : OkL l) (hln : l.length ≤ 16) (A : Option Addr) (c : Nat) (bp : Nat) (A1 : Option Addr) (c1 : Nat) (set : List Pr) (n : Nat) (hn : set.length = n) (hs9 : set.length ≤ 4294967296) (w : World) (hbx : w.cell? ⟨bp, 0, none⟩ = some (.slice A l.length c)) (hl : kNf.C w A l.length l) (hs : kPr.C w A1 n set) (hin : InP l set) :
    Calls Tryd.prog 30 #[.pointer (some ⟨bp, 0, none⟩), .slice A1 n c1] w fun e w' => ∃ v, e = .returned v ∧ kPr.R 58 w' w.heap.size (fun _ => True) v (closedL l set) ∧ Below w.heap.size w w' := by
  subst hn
  have HOK := Aside0.mk hok
  have HL := Aside0.mk hl
  have HS := Aside0.mk hs
  have HI := Aside0.mk hin
  have hbl := World.block_lt_of_cell? w _ hbx
  clear hl hs hin hok
  go_enter Tryd.func30, Tryd.ntmps30
  go_wp2
  go_loopw [5, 18] (fun v i wr => ∃ k : Nat, k ≤ l.length ∧ i = .int .i64 k ∧ Aside0 (kPr.R 58 wr w.heap.size (fun _ => True) v (closedK l set k)) ∧ Aside0 (Below w.heap.size w wr)) (fun _ i _ => l.length - (intOf i).toNat)
  case atStart => exact ⟨0, by omega, rfl, ⟨Kd.R_nil _ _ _ _ _⟩, ⟨Below.refl _ _⟩⟩
  case round =>
    obtain ⟨k, hk, rfl, HO, HB⟩ := hrel
    by_cases hlt : k < l.length
    · obtain ⟨b1, o1, A4, c4, A5, c5, e, hb1, hc0, hc1, hc2, hc3, hrd⟩ := at_nf (Kd.C_below HL.out HB.out) k hlt
      cases e
      have hoka := HOK.out.at hlt
      have hcl := closedK_len HOK.out set hk
      have hcs := closedK_succ l set k
      have hca : closedAt l set k = (clo (l.getD k default) (statesOf set k)).map (fun s => ⟨(k : Int), s⟩) := rfl
      have hwb := HB.out.size
      have hin2 : ∀ s ∈ statesOf set (k : Int), 0 ≤ s ∧ s < (l.getD k default).n := fun s hs => by
        obtain ⟨i, _, h2, h3, h4⟩ := HI.out _ (statesOf_mem.1 hs)
        have h2 : (k : Int) = i := h2
        obtain rfl : k = i := by omega
        exact ⟨h3, h4⟩
      obtain ⟨a, ha⟩ : ∃ a, a = l.getD k default := ⟨_, rfl⟩
      rw [← ha] at hc0 hc1 hc2 hc3 hrd hoka hca hin2
      have HRD := Aside0.mk hrd
      have HOKA := Aside0.mk hoka
      have HCS := Aside0.mk (hcs.trans (by rw [hca]))
      have HIN2 := Aside0.mk hin2
      have HCL := Aside0.mk hcl
      clear ha hrd hoka hcs hca hin2 hcl
      obtain ⟨wo, rfl⟩ : ∃ wo : World, wo = wr := ⟨_, rfl⟩
      go_wp2
      go_loopw [8, 25] (fun v i wr => ∃ j : Nat, j ≤ set.length ∧ i = .int .i64 j ∧ Aside0 ((Kd.int .i64).R 3 wr (wo.heap.size + 1) (fun _ => True) v (statesOf (set.take j) k)) ∧ Aside0 (Below (wo.heap.size + 1) (wo.alloc (.cells #[.int .i64 a.start, .int .i64 a.acc, .slice A4 a.arcs.length c4, .slice A5 a.empty.length c5] 46)) wr)) (fun _ i _ => set.length - (intOf i).toNat)
      case atStart => exact ⟨0, by omega, rfl, ⟨Kd.R_nil _ _ _ _ _⟩, ⟨Below.refl _ _⟩⟩
      case round =>
        obtain ⟨j, hj, rfl, HT, HB2⟩ := hrel
        obtain ⟨hbox, hbel, hwz⟩ := box_later HB2.out
        by_cases hjl : j < set.length
        · obtain ⟨b2, o2, e, hb2, hd0, hd1⟩ := at_pr (Kd.C_below (Kd.C_below HS.out HB.out) hbel) j hjl
          cases e
          have hnx := statesOf_next (i := (k : Int)) hjl
          have hsl := statesOf_len (set.take j) k
          rw [List.length_take] at hsl
          obtain ⟨p, hp⟩ : ∃ p, p = set.getD j default := ⟨_, rfl⟩
          rw [← hp] at hd0 hd1 hnx
          obtain ⟨st, hst⟩ : ∃ st, st = statesOf (set.take j) (k : Int) := ⟨_, rfl⟩
          rw [← hst] at HT hnx hsl
          have hsl2 : st.length ≤ 4294967296 := by omega
          obtain ⟨A6, c6, rfl⟩ := Kd.R_slice HT.out
          clear hp hst hbox hbel hsl
          by_cases he : p.which = (k : Int)
          · have heb : (p.which == (k : Int)) = true := beq_iff_eq.2 he
            rw [if_pos he] at hnx
            have HNX := Aside0.mk hnx
            clear he hnx
            go_wp2_with (at_builtin; refine Kd.R_append (Kd.int .i64) (w0 := wo.alloc (.cells #[.int .i64 a.start, .int .i64 a.acc, .slice A4 a.arcs.length c4, .slice A5 a.empty.length c5] 46)) (wo.heap.size + 1) rfl _ _ 26 3 (.int .i64 0) 8 rfl Tryd.underlying26 infoInt rfl (by decide) (by omega) (.slice A6 st.length c6) st p.state [.int .i64 p.state] (fun _ => True) (fun _ => False) rfl (by first | (go_simp; done) | (go_simp; rfl)) rfl (fun _ hk => hk.elim) (fun _ _ => trivial) ?aO ?aB ?aS ?aL ?_; (case aO => exact Kd.R_alloc HT.out _); (case aB => exact HB2.out.alloc hwz _); (case aS => have := HB2.out.size; simp; omega); (case aL => omega); intro v1 w1 hR hB hg hat; have HRN := Aside0.mk hR; have HBN := Aside0.mk hB; clear hR hB hg hat)
            go_roundw
            case rel => exact ⟨j + 1, by omega, by go_num, ⟨by rw [HNX.out]; exact HRN.out⟩, HBN⟩
            case measure => simp [intOf]; omega
          · have heb : (p.which == (k : Int)) = false := beq_eq_false_iff_ne.2 he
            rw [if_neg he, List.append_nil] at hnx
            have HNX := Aside0.mk hnx
            clear he hnx
            go_wp2
            go_roundw
            case rel => exact ⟨j + 1, by omega, by go_num, ⟨by rw [HNX.out]; exact Kd.R_alloc HT.out _⟩, ⟨HB2.out.alloc hwz _⟩⟩
            case measure => simp [intOf]; omega
        · obtain rfl : j = set.length := by omega
          rw [List.take_length] at HT
          obtain ⟨A6, c6, rfl⟩ := Kd.R_slice HT.out
          have hO2 := Kd.R_below HO.out hbel
          have HB3 := Aside0.mk (HB.out.trans (hbel.mono hwb))
          have x0 := hbox 0 _ rfl
          have x1 := hbox 1 _ rfl
          have x2 := hbox 2 _ rfl
          have x3 := hbox 3 _ rfl
          have hC := (Kd.R_reads' HT.out).2.2
          have hS0 : statesOf set (k : Int) = [] → clo a (statesOf set k) = [] := fun h => by rw [h]; exact clo_nil
          have hslen := statesOf_len set (k : Int)
          obtain ⟨S, hSe⟩ : ∃ S, S = statesOf set (k : Int) := ⟨_, rfl⟩
          rw [← hSe] at hC HCS HIN2 hS0 hslen ⊢
          have HC := Aside0.mk hC
          have HO2 := Aside0.mk hO2
          have HRD2 := Aside0.mk (HRD.out.below hbel)
          have hsl3 : S.length ≤ 4294967296 := by omega
          clear hSe hO2 hC HT hbel hbox hslen
          by_cases hS : S.length = 0
          · have hsb : ((S.length : Int) == 0) = true := beq_iff_eq.2 (by omega)
            have HF := Aside0.mk (show closedK l set (k + 1) = closedK l set k from by rw [HCS.out, hS0 (List.length_eq_zero_iff.1 hS)]; simp)
            clear hS hS0
            go_wp2
            go_roundw
            case rel => exact ⟨k + 1, by omega, by go_num, ⟨by rw [HF.out]; exact HO2.out⟩, HB3⟩
            case measure => simp [intOf]; omega
          · have hsb : ((S.length : Int) == 0) = false := beq_eq_false_iff_ne.2 (by omega)
            clear hS hS0
            go_wp2_with fail
            refine (nclosure_calls a HOKA.out A4 c4 _ c5 A6 c6 S S.length rfl _ HRD2.out HC.out HIN2.out).mono ?_
            rintro e w3 ⟨v3, rfl, hR3, hb3⟩
            have hcl3 := clo_len a S
            have hlim := HOKA.out.lim
            obtain ⟨A7, c7, rfl, _, hC3⟩ := Kd.R_reads hR3
            have HO3 := Aside0.mk (Kd.R_below HO2.out hb3)
            have HB4 := Aside0.mk (HB3.out.trans (hb3.mono (by omega)))
            obtain ⟨T, hT⟩ : ∃ T, T = clo a S := ⟨_, rfl⟩
            rw [← hT] at hC3 hR3 HCS hcl3 ⊢
            have HC3 := Aside0.mk (Kd.R_lower hR3 (show w.heap.size ≤ _ by omega))
            have htl : T.length ≤ 3000 := by omega
            have hw3 := HB4.out.size
            clear hT hR3 hb3 hC3 hlim hcl3 x0 x1 x2 x3
            obtain ⟨O, hO⟩ : ∃ O, O = closedK l set k := ⟨_, rfl⟩
            rw [← hO] at HO3 HCS HCL
            clear hO
            go_wp2
            go_loopw [5, 46] (fun v i wr => ∃ j : Nat, j ≤ T.length ∧ i = .int .i64 j ∧ Aside0 (kPr.R 58 wr w.heap.size (fun _ => True) v (O ++ (T.take j).map (fun s => ⟨(k : Int), s⟩))) ∧ Aside0 ((Kd.int .i64).R 3 wr w.heap.size (fun _ => True) (.slice A7 T.length c7) T) ∧ Aside0 (Below w.heap.size w wr)) (fun _ i _ => T.length - (intOf i).toNat)
            case atStart => exact ⟨0, by omega, rfl, ⟨by simpa using HO3.out⟩, HC3, HB4⟩
            case round =>
              obtain ⟨j, hj, rfl, HO5, HC5, HB5⟩ := hrel
              by_cases hjl : j < T.length
              · obtain ⟨b4, o4, e, hb4, hd4⟩ := at_num (Kd.R_reads' HC5.out).2.2 j hjl
                cases e
                have htk := take_next (0 : Int) hjl
                obtain ⟨y, hy⟩ : ∃ y, y = T.getD j 0 := ⟨_, rfl⟩
                rw [← hy] at hd4 htk
                have HTK := Aside0.mk htk
                obtain ⟨P, hP⟩ : ∃ P, P = O ++ (T.take j).map (fun s => (⟨(k : Int), s⟩ : Pr)) := ⟨_, rfl⟩
                rw [← hP] at HO5
                have hpl : P.length ≤ 100000 := by
                  have := HCL.out
                  rw [hP, List.length_append, List.length_map, List.length_take]
                  omega
                have HP := Aside0.mk hP
                obtain ⟨A8, c8, rfl⟩ := Kd.R_slice HO5.out
                clear hy htk hP
                go_wp2_with (at_builtin; refine Kd.R_append kPr (w0 := w) w.heap.size rfl _ _ 55 58 (.agg #[.int .i64 0, .int .i64 0]) 16 rfl Tryd.underlying55 infoPr rfl (by decide) (by omega) (.slice A8 P.length c8) P ⟨(k : Int), y⟩ [.int .i64 k, .int .i64 y] (fun _ => True) (fun _ => False) rfl (by first | (go_simp; done) | (go_simp; rfl)) (kPr_mkM _ _ _ _) (fun _ hk => hk.elim) (fun _ _ => trivial) ?aO ?aB ?aS ?aL ?_; (case aO => exact HO5.out); (case aB => exact HB5.out); (case aS => have := HB5.out.size; simp; omega); (case aL => omega); intro v1 w1 hR hB hg hat; have HRN := Aside0.mk hR; have HBN := Aside0.mk hB; have HCN := Aside0.mk (Kd.R_over' HC5.out (Kd.R_typed HO5.out) (fun q hq => by rw [int_E hq]; decide) hg); clear hR hB hg hat)
                go_roundw
                case rel => exact ⟨j + 1, by omega, by go_num, ⟨by rw [HTK.out, List.map_append, ← List.append_assoc, ← HP.out]; exact HRN.out⟩, HCN, HBN⟩
                case measure => simp [intOf]; omega
              · obtain rfl : j = T.length := by omega
                rw [List.take_length] at HO5
                have HF := Aside0.mk HCS.out
                go_wp2
                go_roundw
                case rel => exact ⟨k + 1, by omega, by go_num, ⟨by rw [HF.out]; exact HO5.out⟩, HB5⟩
                case measure => simp [intOf]; omega
    · obtain rfl : k = l.length := by omega
      go_wp2
      go_ret
      exact ⟨_, rfl, HO.out, HB.out⟩
end Go.Proofs.YthohahcpdgebbaaDoor.Wk
namespace Go.Proofs.YthohahcpdgebbaaDoor.Open
open Go.RowKit Go.WideShapes Go.ChangeShapes Go.Proofs.YthohahcpdgebbaaDoorW.PrintWords Go.Proofs.YthohahcpdgebbaaDoorW.PrintLast Go.Proofs.YthohahcpdgebbaaDoorW.PrintMore
open Go.Proofs.YthohahcpdgebbaaDoor.Th Go.Proofs.YthohahcpdgebbaaDoor.Wk
structure Opens {α : Type} (d : Kd α) (t : TypeId) (G : α → Prop) : Prop where
  sz : Tryd.prog.cellsOf t = d.sz
  go : ∀ {H : Type} {enc : TypeId × Value → H} {w : World} {base : Nat} {sp : Nat → Bool} {held : Bool} {fuel : Nat} {cs : List Value} {x : DataW H × List MemPlace}, DataW.trod enc Tryd.prog w base sp held fuel t cs = some x → ∃ a, d.K w a cs ∧ G a
def inI (k : IntKind) (n : Int) : Prop := k.min ≤ n ∧ n ≤ k.max
theorem opens_int {t : TypeId} {k : IntKind} (ht : Tryd.prog.underlying t = some (.int k)) (hc : Tryd.prog.cellsOf t = 1) : Opens (Kd.int k) t (inI k) := by
  refine ⟨hc, fun h => ?_⟩
  obtain ⟨n, rfl, _, hw⟩ := DataW.trod_int ht h
  refine ⟨n, rfl, ?_⟩
  simpa [Lit.wf, inI] using hw
theorem list_choice {α : Type} {P : Nat → α → Prop} : ∀ n : Nat, (∀ i, i < n → ∃ a, P i a) → ∃ l : List α, l.length = n ∧ ∀ i a, l[i]? = some a → P i a
  | 0, _ => ⟨[], rfl, fun i a h => by simp at h⟩
  | n + 1, h => by
    obtain ⟨l, hl, hp⟩ := list_choice n (fun i hi => h i (by omega))
    obtain ⟨a, ha⟩ := h n (by omega)
    refine ⟨l.concat a, by simp [hl], fun i b hb => ?_⟩
    rw [List.concat_eq_append] at hb
    by_cases hi : i < n
    · rw [List.getElem?_append_left (by omega)] at hb
      exact hp i b hb
    · have hi' : i < (l ++ [a]).length := (List.getElem?_eq_some_iff.1 hb).1
      have : i = n := by simp [hl] at hi'; omega
      subst this
      rw [List.getElem?_append_right (by omega)] at hb
      simp [hl] at hb
      subst hb
      exact ha
theorem opens_slice {α : Type} {d : Kd α} {t e : TypeId} {G : α → Prop} (ht : Tryd.prog.underlying t = some (.slice e)) (hc : Tryd.prog.cellsOf t = 1) (h : Opens d e G) : Opens (Kd.slice e d) t (fun l => ∀ x ∈ l, G x) := by
  refine ⟨hc, fun {H enc w base sp held fuel cs x} hx => ?_⟩
  rcases DataW.trod_slice ht hx with ⟨rfl, _⟩ | ⟨a, len, cap, elems, rest, n, _, rfl, _, _, hl, hm, hlen, hel, _, _⟩
  · exact ⟨[], ⟨none, 0, rfl, Nat.le_refl _, rfl, by simp, fun h0 => absurd h0 (by simp)⟩, fun x hx => by cases hx⟩
  · have hch : ∀ i, i < len → ∃ y : α, G y ∧ ∃ c, c.length = d.sz ∧ d.K w y c ∧ ∀ j u, c[j]? = some u → w.cell? (a.add (i * d.sz + j)) = some u := by
      intro i hi
      have h1 := hel i hi
      rw [List.getElem?_eq_getElem (show i < elems.length by omega), Option.bind_eq_some_iff] at h1
      obtain ⟨cs', hcs, hy⟩ := h1
      obtain ⟨y, hk, hg⟩ := h.go hy
      obtain ⟨_, hlc, hcell⟩ := World.cells?_some hcs
      rw [h.sz] at hlc hcell
      refine ⟨y, hg, cs', hlc, hk, fun j u hj => ?_⟩
      have hjl : j < d.sz := by
        have := (List.getElem?_eq_some_iff.1 hj).1
        omega
      have h2 := hcell j hjl
      rw [hj, Addr.add_add] at h2
      exact h2
    obtain ⟨l, hll, hp⟩ := list_choice len hch
    refine ⟨l, ⟨some a, cap, by rw [hll], by rw [hll]; exact hl, rfl, ?_, fun _ => ⟨a, rfl, fun j p hj => ?_⟩⟩, fun x hx => ?_⟩
    · have : maxLen ≤ 9223372036854775807 := by decide
      omega
    · obtain ⟨_, c, h1, h2, h3⟩ := hp j p hj
      exact ⟨c, h1, h2, h3⟩
    · obtain ⟨i, hi⟩ := List.getElem?_of_mem hx
      exact (hp i x hi).1
theorem opens_pair {α β : Type} {d0 : Kd α} {d1 : Kd β} {t : TypeId} {f0 f1 : Field} {G0 : α → Prop} {G1 : β → Prop} (ht : Tryd.prog.underlying t = some (.struct #[f0, f1])) (hc : Tryd.prog.cellsOf t = d0.sz + d1.sz)
    (e0 : f0.offset = 0) (e1 : f1.offset = d0.sz) (h0 : Opens d0 f0.type G0) (h1 : Opens d1 f1.type G1) : Opens (Kd.pair d0 d1) t (fun p => G0 p.1 ∧ G1 p.2) := by
  refine ⟨hc, fun {H enc w base sp held fuel cs x} hx => ?_⟩
  obtain ⟨y0, y1, n, _, hl, q0, q1⟩ := trod_struct2 ht hx
  obtain ⟨a, ka, ga⟩ := h0.go q0
  obtain ⟨b, kb, gb⟩ := h1.go q1
  rw [e0, h0.sz] at ka
  rw [e1, h1.sz] at kb
  refine ⟨(a, b), ⟨_, _, ?_, ka, kb⟩, ga, gb⟩
  rw [List.drop_zero]
  rw [List.take_of_length_le (l := cs.drop d0.sz) (by rw [List.length_drop]; omega)]
  exact (List.take_append_drop _ _).symm
def GArc (a : Arc) : Prop := (inI .i32 a.lo ∧ inI .i32 a.hi) ∧ inI .i64 a.to
theorem opens_i64 : Opens (Kd.int .i64) 3 (inI .i64) := opens_int Tryd.underlying3 (by kernel_rfl)
theorem opens_i32 : Opens (Kd.int .i32) 21 (inI .i32) := opens_int Tryd.underlying21 (by kernel_rfl)
theorem opens_range : Opens (Kd.pair (Kd.int .i32) (Kd.int .i32)) 52 (fun p => inI .i32 p.1 ∧ inI .i32 p.2) :=
  opens_pair Tryd.underlying52 (by kernel_rfl) rfl rfl opens_i32 opens_i32
theorem opens_arc : Opens kArc 54 GArc := by
  have h : Opens (Kd.pair (Kd.pair (Kd.int .i32) (Kd.int .i32)) (Kd.int .i64)) 54 (fun p => (inI .i32 p.1.1 ∧ inI .i32 p.1.2) ∧ inI .i64 p.2) :=
    opens_pair Tryd.underlying54 (by kernel_rfl) rfl rfl opens_range opens_i64
  refine ⟨h.sz, fun hx => ?_⟩
  obtain ⟨⟨⟨lo, hi⟩, z⟩, hk, hg⟩ := h.go hx
  exact ⟨⟨lo, hi, z⟩, hk, hg⟩
theorem opens_arcs : Opens (Kd.slice 54 kArc) 50 (fun l => ∀ a ∈ l, GArc a) := opens_slice Tryd.underlying50 (by kernel_rfl) opens_arc
theorem opens_table : Opens (Kd.slice 50 kArcs) 25 (fun t => ∀ l ∈ t, ∀ a ∈ l, GArc a) := opens_slice Tryd.underlying25 (by kernel_rfl) opens_arcs
theorem opens_ints : Opens (Kd.slice 3 (Kd.int .i64)) 26 (fun l => ∀ x ∈ l, inI .i64 x) := opens_slice Tryd.underlying26 (by kernel_rfl) opens_i64
structure GDfa (d : Dfa) : Prop where
  start : inI .i64 d.start
  arcs : ∀ l ∈ d.arcs, ∀ a ∈ l, GArc a
  labels : ∀ x ∈ d.labels, inI .i64 x
set_option maxRecDepth 100000 in
theorem open_dfa {H : Type} {enc : TypeId × Value → H} {W : World} {base b0 : Nat} {r : Reach} {sp : Nat → Bool} {held : Bool} {v : Value} {x : DataW H} {ps : List MemPlace}
    (hv : Value.okWide Tryd.prog W r b0 28 v) (h : DataW.Trod enc Tryd.prog W base sp held 28 v x ps) :
    ∃ (d : Dfa) (A1 : Option Addr) (c1 : Nat) (A2 : Option Addr) (c2 : Nat), v = .agg #[.int .i64 d.start, .slice A1 d.arcs.length c1, .slice A2 d.labels.length c2] ∧ RdD W d A1 c1 A2 c2 ∧ GDfa d := by
  obtain ⟨cs, rfl, hsz⟩ := okWide_struct Tryd.underlying28 hv
  obtain ⟨fuel, hf⟩ := h
  obtain ⟨xs, n, _, _, hl, hlen, hfs⟩ := DataW.trod_struct Tryd.underlying28 hf
  match xs, hlen with
  | [y0, y1, y2], _ =>
    obtain ⟨s, k0, g0⟩ := opens_i64.go (hfs 0 _ rfl)
    obtain ⟨t, k1, g1⟩ := opens_table.go (hfs 1 _ rfl)
    obtain ⟨l, k2, g2⟩ := opens_ints.go (hfs 2 _ rfl)
    obtain ⟨A1, c1, e1, le1, hc1⟩ := k1
    obtain ⟨A2, c2, e2, le2, hc2⟩ := k2
    have hs3 : cs.size = 3 := hsz
    refine ⟨⟨s, t, l⟩, A1, c1, A2, c2, ?_, ⟨hc1, hc2, le1, le2⟩, ⟨g0, g1, g2⟩⟩
    have ks : (((Value.agg cs).cells.toList.drop 0).take 1) = [.int .i64 s] := k0
    have kt : (((Value.agg cs).cells.toList.drop 1).take 1) = [.slice A1 t.length c1] := e1
    have kl : (((Value.agg cs).cells.toList.drop 2).take 1) = [.slice A2 l.length c2] := e2
    have hcs : (Value.agg cs).cells = cs := rfl
    rw [hcs] at ks kt kl
    obtain ⟨ls⟩ := cs
    match ls, hs3 with
    | [u0, u1, u2], _ =>
      simp at ks kt kl
      rw [ks, kt, kl]
end Go.Proofs.YthohahcpdgebbaaDoor.Open
namespace Go.Proofs.YthohahcpdgebbaaDoor
open Go.ChangeShapes Go.WideShapes Go.ChangeAt Go.WideMaps Go.WideElems Go.RowKit
open Go.Proofs.YthohahcpdgebbaaDoor.Th Go.Proofs.YthohahcpdgebbaaDoor.Wk Go.Proofs.YthohahcpdgebbaaDoor.Open
theorem own : ownKnob Tryd.prog.godebug = none := by kernel_rfl
theorem laidOut : laidOutB Tryd.prog = true := by kernel_rfl
theorem door_met (os : Os) (args : Array Value) : laidMetH Tryd.prog Rows.dfaSameLabelsRow.laid ((World.doorLaid Tryd.prog 4000 os).forCall (fun _ _ => 0) ⟨#[], args, []⟩).memory :=
  laidMetH_of_parts3 (fuel := 8) (laidMet_of_run' 8 (by kernel_rfl) (by kernel_rfl)) (by kernel_rfl) (by kernel_rfl)
theorem gPow : Tryd.prog.globalNamed "internal/strconv.uint64pow10" = some 2 := by kernel_rfl
theorem tPow : (Tryd.prog.globals[2]?).map (·.type) = some 166 := by kernel_rfl
theorem of_laid {W : World} (h : laidMetH Tryd.prog Rows.dfaSameLabelsRow.laid W) : Tab W := by
  rw [MakeChecks.laidMetH_plain _ _ _ (by kernel_rfl)] at h
  exact Lib.tabIs_of_head (rest := []) gPow tPow Tryd.underlying166 Tryd.underlying140 (by kernel_rfl) (by kernel_rfl) (laidMet.tail (laidMet.tail h))
end Go.Proofs.YthohahcpdgebbaaDoor
