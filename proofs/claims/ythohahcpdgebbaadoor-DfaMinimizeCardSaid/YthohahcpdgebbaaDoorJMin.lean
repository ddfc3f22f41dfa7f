/- Proved: what a part of the given program (its deterministic automata, and the functions that they call) computes, and laws on that, under the conditions that each theorem names. -/
import Derived.Test.YthohahcpdgebbaaDoorJCls
import Derived.Test.YthohahcpdgebbaaDoorJThy
namespace Go.Proofs.YthohahcpdgebbaaDoor.Wk
open Go.RowKit Go.Proofs.YthohahcpdgebbaaDoorW.PrintWords Go.Proofs.YthohahcpdgebbaaDoorW.PrintLast Go.Proofs.YthohahcpdgebbaaDoorW.PrintMore
open Go.Proofs.YthohahcpdgebbaaDoor.Th
set_option linter.unusedVariables false
set_option linter.unusedSimpArgs false
def MinRes (d m : Dfa) : Prop := (¬ Live d d.start ∧ m = ⟨0, [[]], [-1]⟩) ∨ (Live d d.start ∧ m.start = 0 ∧ ∃ R order, CRes d R ∧ BInv d R m.arcs m.labels order ∧ order.length = m.arcs.length)
theorem box2_later {w wr : World} {c1 c2 : Array Value} {t1 t2 : TypeId} (hb : Below (w.heap.size + 2) ((w.alloc (.cells c1 t1)).alloc (.cells c2 t2)) wr) :
    (∀ (j : Nat) (v : Value), c1[j]? = some v → wr.cell? ⟨w.heap.size, j, none⟩ = some v) ∧ (∀ (j : Nat) (v : Value), c2[j]? = some v → wr.cell? ⟨w.heap.size + 1, j, none⟩ = some v) ∧ (∀ j : Nat, wr.frozen? ⟨w.heap.size + 1, j, none⟩ = false) ∧ Below w.heap.size w wr ∧ w.heap.size + 2 ≤ wr.heap.size ∧ wr.heap[w.heap.size + 1]? = some (.cells c2 t2 (0, 0)) := by
  have hs := hb.size
  simp only [World.alloc, Array.size_push] at hs
  have e1 : ((w.alloc (.cells c1 t1)).alloc (.cells c2 t2)).heap[w.heap.size + 1]? = some (.cells c2 t2 (0, 0)) := by
    have h := heap_alloc_new (w.alloc (.cells c1 t1)) (.cells c2 t2)
    have e : (w.alloc (.cells c1 t1)).heap.size = w.heap.size + 1 := by simp
    rw [← e]
    exact h
  have e2 : wr.heap[w.heap.size + 1]? = some (.cells c2 t2 (0, 0)) := by rw [hb.block _ (by omega)]; exact e1
  have e3 : wr.heap[w.heap.size]? = some (.cells c1 t1 (0, 0)) := by
    rw [hb.block _ (by omega), heap_alloc_old _ _ (by simp)]
    exact heap_alloc_new w _
  refine ⟨fun j v hj => ?_, fun j v hj => ?_, ?_, (below_alloc (below_alloc (Below.refl _ _) _) _).trans (hb.mono (by omega)), by omega, e2⟩
  · simp [World.cell?, e3, hj]
  · simp [World.cell?, e2, hj]
  · intro j; simp [World.frozen?, e2]
theorem put3 {W : World} {b : Nat} {a0 a1 a2 : Value} {t : TypeId} (h : W.heap[b]? = some (.cells #[a0, a1, a2] t (0, 0))) (u0 u1 u2 : Value) :
    (((W.setCell ⟨b, 0, none⟩ u0).setCell ⟨b, 1, none⟩ u1).setCell ⟨b, 2, none⟩ u2).heap[b]? = some (.cells #[u0, u1, u2] t (0, 0)) := by
  simp [World.setCell, Array.getElem?_modify, h]
theorem put3_cells {W : World} {b : Nat} {a0 a1 a2 : Value} {t : TypeId} (h : W.heap[b]? = some (.cells #[a0, a1, a2] t (0, 0))) : W.cell? ⟨b, 0, none⟩ = some a0 ∧ W.cell? ⟨b, 1, none⟩ = some a1 ∧ W.cell? ⟨b, 2, none⟩ = some a2 := by
  refine ⟨?_, ?_, ?_⟩ <;> simp [World.cell?, h]
theorem put3_other {W : World} {b : Nat} {k : Nat} (hk : k ≠ b) (u0 u1 u2 : Value) : (((W.setCell ⟨b, 0, none⟩ u0).setCell ⟨b, 1, none⟩ u1).setCell ⟨b, 2, none⟩ u2).heap[k]? = W.heap[k]? := by
  rw [Below.heap_setCell _ _ _ _ hk, Below.heap_setCell _ _ _ _ hk, Below.heap_setCell _ _ _ _ hk]
theorem one_R {k : IntKind} {W : World} {base b : Nat} {x : Int} {t : TypeId} (hb : base ≤ b) (h : W.heap[b]? = some (.cells #[.int k x] t (0, 0))) : (Kd.int k).R t W base (fun _ => True) (.slice (some ⟨b, 0, none⟩) 1 1) [x] :=
  Kd.R_of_own (enc := Value.int k) (xs := [x]) ⟨rfl, .inr ⟨b, 1, #[.int k x], rfl, hb, h, Nat.le_refl _, by decide, rfl, rfl⟩⟩ (fun _ _ => trivial)
structure RO (w : World) (base : Nat) (m : Dfa) (B1 : Option Addr) (k1 : Nat) (B2 : Option Addr) (k2 : Nat) : Prop where
  a : kArcs.R 50 w base (fun _ => True) (.slice B1 m.arcs.length k1) m.arcs
  l : (Kd.int .i64).R 3 w base (fun _ => True) (.slice B2 m.labels.length k2) m.labels
theorem RO.rd {w : World} {base : Nat} {m : Dfa} {B1 : Option Addr} {k1 : Nat} {B2 : Option Addr} {k2 : Nat} (h : RO w base m B1 k1 B2 k2) : RdD w m B1 k1 B2 k2 := by
  obtain ⟨_, c1, r1⟩ := Kd.R_reads' h.a
  obtain ⟨_, c2, r2⟩ := Kd.R_reads' h.l
  exact ⟨r1, r2, c1, c2⟩
theorem dead_ro {W : World} {base b1 b2 : Nat} (g1 : base ≤ b1) (g2 : base ≤ b2) (h1 : W.heap[b1]? = some (.cells #[.slice none 0 0] 50 (0, 0))) (h2 : W.heap[b2]? = some (.cells #[.int .i64 (-1)] 3 (0, 0))) : RO W base ⟨0, [[]], [-1]⟩ (some ⟨b1, 0, none⟩) 1 (some ⟨b2, 0, none⟩) 1 := by
  refine ⟨⟨fun _ _ => trivial, [.slice none 0 0], ⟨rfl, .inr ⟨b1, 1, #[.slice none 0 0], rfl, g1, h1, Nat.le_refl _, by decide, rfl, rfl⟩⟩, rfl, fun j p hj => ?_⟩, one_R g2 h2⟩
  match j, hj with
  | 0, hj =>
    injection hj with hj
    subst hj
    exact ⟨.slice none 0 0, rfl, Kd.R_nil _ _ _ _ _⟩
  | j + 1, hj => simp at hj
set_option maxHeartbeats 8000000 in
set_option maxRecDepth 100000 in
theorem minimize_calls (d : Dfa) (hok : Ok d) (A1 : Option Addr) (c1 : Nat) (A2 : Option Addr) (c2 : Nat) (w : World) (hd : RdD w d A1 c1 A2 c2) (harc : ∀ l ∈ d.arcs, l.length ≤ 4294967296) (hlab : ∀ x ∈ d.labels, x ≤ 9223372036854775807) (htab : Tab w) :
    Calls Tryd.prog 23 #[.agg #[.int .i64 d.start, .slice A1 d.arcs.length c1, .slice A2 d.labels.length c2]] w fun e w' => ∃ m B1 k1 B2 k2, e = .returned (.agg #[.int .i64 m.start, .slice B1 m.arcs.length k1, .slice B2 m.labels.length k2]) ∧ RO w' w.heap.size m B1 k1 B2 k2 ∧ MinRes d m ∧ Below w.heap.size w w' := by
  obtain ⟨m1, m2⟩ := hd.max
  have HD := Aside0.mk hd
  have HOK := Aside0.mk hok
  have HA := Aside0.mk harc
  have HLB := Aside0.mk hlab
  have HTAB := Aside0.mk htab
  have n0 : 1 ≤ d.arcs.length := hok.pos
  have n1 : d.arcs.length ≤ 3000 := hok.lim
  have s0 : 0 ≤ d.start := hok.st0
  have s1 : d.start < (d.arcs.length : Int) := hok.st1
  have n2 : d.labels.length = d.arcs.length := hok.len
  have N2 := Aside0.mk n2
  clear hd harc hok n2 hlab htab
  go_enter Tryd.func23, Tryd.ntmps23
  go_wp2_with fail
  refine (check_calls d A1 c1 A2 c2 _ (HD.out.below (below_alloc (below_alloc (Below.refl _ _) _) _))).mono ?_
  rintro e w1 ⟨hc, hb⟩
  rcases hc with ⟨rfl, _⟩ | ⟨rfl, hno⟩
  case inr => exact absurd HOK.out hno
  have hb1 : Below (w.heap.size + 2) ((w.alloc (.cells #[.int .i64 d.start, .slice A1 d.arcs.length c1, .slice A2 d.labels.length c2] 28)).alloc (.cells #[.int .i64 0, .slice none 0 0, .slice none 0 0] 28)) w1 := by
    have e : ((w.alloc (.cells #[.int .i64 d.start, .slice A1 d.arcs.length c1, .slice A2 d.labels.length c2] 28)).alloc (.cells #[.int .i64 0, .slice none 0 0, .slice none 0 0] 28)).heap.size = w.heap.size + 2 := by simp
    rwa [e] at hb
  obtain ⟨hx, hy, _, hbw, hsz, _⟩ := box2_later hb1
  have x0 := hx 0 _ rfl
  have x1 := hx 1 _ rfl
  have x2 := hx 2 _ rfl
  simp only [List.getElem_toArray, List.getElem_cons_zero, List.getElem_cons_succ] at x0 x1 x2
  have HB1 := Aside0.mk hb1
  have HBW := Aside0.mk hbw
  clear hb hb1 hx hy hbw
  go_wp2_with fail
  refine (classes_calls d HOK.out A1 c1 A2 c2 _ (HD.out.below HBW.out) HA.out HLB.out (HTAB.out.later HBW.out)).mono ?_
  rintro e wc ⟨v, R, rfl, hR, hres, hb⟩
  have hRl : R.length = d.arcs.length := hres.len
  obtain ⟨gc, cc, rfl, _, hgc, _⟩ := Kd.R_form hR (by rw [hRl]; omega)
  have hC := (Kd.R_reads' hR).2.2
  rw [hRl] at hC
  have hbc := HB1.out.trans (hb.mono hsz)
  have HBC := Aside0.mk hbc
  have HC := Aside0.mk hC
  have HRES := Aside0.mk hres
  have HRL := Aside0.mk hRl
  obtain ⟨hx, hy, hfz, hbw, hsz2, _⟩ := box2_later hbc
  have x0 := hx 0 _ rfl
  have x1 := hx 1 _ rfl
  have x2 := hx 2 _ rfl
  have y0 := hy 0 _ rfl
  have y1 := hy 1 _ rfl
  have y2 := hy 2 _ rfl
  simp only [List.getElem_toArray, List.getElem_cons_zero, List.getElem_cons_succ] at x0 x1 x2 y0 y1 y2
  have HBW2 := Aside0.mk hbw
  have z0 := hfz 0
  have z1 := hfz 1
  have z2 := hfz 2
  have lz : w.heap.size + 1 < wc.heap.size := by omega
  have nz := World.new_ne _ _ y0
  obtain ⟨q4, o4, e, hb4, hc4⟩ := at_num hC d.start.toNat (by omega)
  cases e
  rw [Nat.zero_add] at hc4
  have hcs : R.getD d.start.toNat 0 = cl R d.start := by
    unfold cl
    rw [List.getD_eq_getElem?_getD, List.getD_eq_getElem?_getD, List.getElem?_eq_getElem (by rw [hRl]; omega)]
    rfl
  rw [hcs] at hc4
  have hlv : Live d d.start ↔ cl R d.start ≠ -1 := by
    obtain ⟨m, hm⟩ := Int.eq_ofNat_of_zero_le s0
    rw [hm]
    constructor
    · intro hl
      have := (hres.live m (by unfold Dfa.n; omega) hl).1
      omega
    · intro hn
      rcases Classical.em (Live d m) with hl | hl
      · exact hl
      · exact absurd (hres.dead m (by unfold Dfa.n; omega) hl) hn
  have HLV := Aside0.mk hlv
  rw [hRl]
  clear hb hR hres hRl hC hbc hx hy hbw hlv hcs hfz
  by_cases hst : cl R d.start = -1
  · have HF := Aside0.mk (show MinRes d ⟨0, [[]], [-1]⟩ from .inl ⟨fun hl => HLV.out.1 hl hst, rfl⟩)
    rw [hst] at hc4
    have hbS := (HBC.out.alloc hsz2 (.cells #[.slice none 0 0] 50)).alloc (by simp; omega) (.cells #[.int .i64 (-1)] 3)
    obtain ⟨_, hyS, hzS, hbwS, _, hhS⟩ := box2_later hbS
    have HBS := Aside0.mk hbS
    have HBWS := Aside0.mk hbwS
    have yS0 := hyS 0 _ rfl
    have yS1 := hyS 1 _ rfl
    have yS2 := hyS 2 _ rfl
    simp only [List.getElem_toArray, List.getElem_cons_zero, List.getElem_cons_succ] at yS0 yS1 yS2
    have zS0 := hzS 0
    have zS1 := hzS 1
    have zS2 := hzS 2
    clear hst hbS hyS hzS hbwS
    have HHS := Aside0.mk hhS
    have HL1 : Aside0 (((wc.alloc (.cells #[.slice none 0 0] 50)).alloc (.cells #[.int .i64 (-1)] 3)).heap[wc.heap.size]? = some (.cells #[.slice none 0 0] 50 (0, 0))) := ⟨by
      rw [heap_alloc_old _ _ (by simp)]
      exact heap_alloc_new wc _⟩
    have HL2 : Aside0 (((wc.alloc (.cells #[.slice none 0 0] 50)).alloc (.cells #[.int .i64 (-1)] 3)).heap[wc.heap.size + 1]? = some (.cells #[.int .i64 (-1)] 3 (0, 0))) := ⟨by
      have h := heap_alloc_new (wc.alloc (.cells #[.slice none 0 0] 50)) (.cells #[.int .i64 (-1)] 3)
      have e : (wc.alloc (.cells #[.slice none 0 0] 50)).heap.size = wc.heap.size + 1 := by simp
      rw [← e]
      exact h⟩
    clear hhS
    go_wp2
    have HP := put3 HHS.out (.int .i64 0) (.slice (some ⟨wc.heap.size, 0, none⟩) 1 1) (.slice (some ⟨wc.heap.size + 1, 0, none⟩) 1 1)
    have hP1 := (put3_other (W := (wc.alloc (.cells #[.slice none 0 0] 50)).alloc (.cells #[.int .i64 (-1)] 3)) (b := w.heap.size + 1) (k := wc.heap.size) (by omega) (.int .i64 0) (.slice (some ⟨wc.heap.size, 0, none⟩) 1 1) (.slice (some ⟨wc.heap.size + 1, 0, none⟩) 1 1)).trans HL1.out
    have hP2 := (put3_other (W := (wc.alloc (.cells #[.slice none 0 0] 50)).alloc (.cells #[.int .i64 (-1)] 3)) (b := w.heap.size + 1) (k := wc.heap.size + 1) (by omega) (.int .i64 0) (.slice (some ⟨wc.heap.size, 0, none⟩) 1 1) (.slice (some ⟨wc.heap.size + 1, 0, none⟩) 1 1)).trans HL2.out
    have hPB := ((HBWS.out.setCell (p := ⟨w.heap.size + 1, 0, none⟩) (by simp) (.int .i64 0)).setCell (p := ⟨w.heap.size + 1, 1, none⟩) (by simp) (.slice (some ⟨wc.heap.size, 0, none⟩) 1 1)).setCell (p := ⟨w.heap.size + 1, 2, none⟩) (by simp) (.slice (some ⟨wc.heap.size + 1, 0, none⟩) 1 1)
    generalize hWF : (((((wc.alloc (.cells #[.slice none 0 0] 50)).alloc (.cells #[.int .i64 (-1)] 3)).setCell ⟨w.heap.size + 1, 0, none⟩ (.int .i64 0)).setCell ⟨w.heap.size + 1, 1, none⟩ (.slice (some ⟨wc.heap.size, 0, none⟩) 1 1)).setCell ⟨w.heap.size + 1, 2, none⟩ (.slice (some ⟨wc.heap.size + 1, 0, none⟩) 1 1)) = WF at HP hP1 hP2 hPB ⊢
    obtain ⟨p0, p1, p2⟩ := put3_cells HP
    refine bodyPost_ret (v := .agg #[.int .i64 0, .slice (some ⟨wc.heap.size, 0, none⟩) 1 1, .slice (some ⟨wc.heap.size + 1, 0, none⟩) 1 1]) (by simp [results, Tryd.results23, go_sem, p0, p1, p2]) rfl ?_
    exact ⟨⟨0, [[]], [-1]⟩, _, _, _, _, rfl, dead_ro (by omega) (by omega) hP1 hP2, HF.out, hPB⟩
  · have HLV2 := Aside0.mk (HLV.out.2 hst)
    have hcb : ∀ k : Nat, k < d.arcs.length → -1 ≤ R.getD k 0 ∧ R.getD k 0 < 3000 := by
      intro k hk
      have e : R.getD k 0 = cl R k := by
        rw [cl_nat, List.getD_eq_getElem?_getD, List.getD_eq_getElem?_getD, List.getElem?_eq_getElem (by rw [HRL.out]; exact hk)]
        rfl
      rw [e]
      rcases Classical.em (Live d k) with hl | hl
      · have := HRES.out.live k hk hl
        unfold Dfa.n at this
        omega
      · rw [HRES.out.dead k hk hl]
        omega
    have HCB := Aside0.mk hcb
    have hsb : (cl R d.start == -1) = false := beq_eq_false_iff_ne.2 hst
    have hmm := @run_makeMap Tryd.prog
    have HM0 := Aside0.mk (mapIs_made 3 litI wc)
    clear hcb hst hmm
    have hmm := @run_makeMap Tryd.prog
    go_wp2
    go_loopw [37] (fun i wr => ∃ k : Nat, k ≤ d.arcs.length ∧ i = .int .i64 k ∧ Aside0 (∃ q, q ≤ k ∧ MapIs 3 litI wr wc.heap.size q (nfun (R.take k))) ∧ Aside0 (Below wc.heap.size wc wr)) (fun i _ => d.arcs.length - (intOf i).toNat)
    case atStart => exact ⟨0, by omega, rfl, ⟨0, Nat.le_refl _, by simpa [nfun_nil] using HM0.out⟩, ⟨(Below.refl _ _).alloc (Nat.le_refl _) _⟩⟩
    case round =>
      obtain ⟨k, hk, rfl, HQ, HB⟩ := hrel
      by_cases hlt : k < d.arcs.length
      · obtain ⟨q, hq, hM⟩ := HQ.out
        obtain ⟨q5, o5, e, hb5, hc5⟩ := at_num (Kd.C_below HC.out HB.out) k hlt
        cases e
        rw [Nat.zero_add] at hc5
        obtain ⟨cb0, cb1⟩ := HCB.out k hlt
        have htk : R.take (k + 1) = R.take k ++ [R.getD k 0] := by
          rw [List.take_succ_eq_append_getElem (by rw [HRL.out]; exact hlt), List.getD_eq_getElem?_getD, List.getElem?_eq_getElem (by rw [HRL.out]; exact hlt)]
          rfl
        have htl : (R.take k).length = k := by rw [List.length_take, HRL.out]; omega
        obtain ⟨c, hcc⟩ : ∃ c, c = R.getD k 0 := ⟨_, rfl⟩
        rw [← hcc] at hc5 cb0 cb1 htk
        have hkey := keyI_of (k := c) (WalkArith.wf_i64 (by omega))
        have HKEY := Aside0.mk hkey
        cases hix : ix (R.take k) c with
        | some i =>
          have hlk := hM.hit keyedI Tryd.underlying88 hkey (nfun_hit hix)
          have HM2 := Aside0.mk (show MapIs 3 litI wr wc.heap.size q (nfun (R.take (k + 1))) from by rw [htk, nfun_keep hix]; exact hM)
          clear hkey hix hcc htk htl hM HQ
          go_wp2
          go_roundw
          case rel => exact ⟨k + 1, by omega, by go_num, ⟨q, by omega, HM2.out⟩, HB⟩
          case measure => simp [intOf]; omega
        | none =>
          have hlk := hM.miss keyedI Tryd.underlying88 hkey (nfun_miss hix)
          have HMI := Aside0.mk (nfun_miss hix)
          have HFN := Aside0.mk (show (fun k' => if k' = c then some (k : Int) else nfun (R.take k) k') = nfun (R.take (k + 1)) from by
            rw [htk, ← nfun_snoc hix, htl])
          have HWF := Aside0.mk (show (Lit.int .i64 (k : Int)).wf = true from WalkArith.wf_i64 (by omega))
          have HM1 := Aside0.mk hM
          have hn3 : q < 1000000 := by omega
          clear hkey hix hcc htk htl hM HQ
          go_wp2_with (at_mapUpdate; refine wpList_new litI_key litI_inj rfl _ _ _ 88 (.inl rfl) keyedI Tryd.underlying88 rfl HM1.out hn3 _ c rfl HKEY.out HMI.out (k : Int) rfl HWF.out ?_; intro w8 hm8 hg8; have HM8 := Aside0.mk hm8; have HG8 := Aside0.mk hg8; clear hm8 hg8)
          go_roundw
          case rel => exact ⟨k + 1, by omega, by go_num, ⟨q + 1, by omega, by rw [← HFN.out]; exact HM8.out⟩, ⟨HB.out.grown HG8.out HB.out.size (fun q hq => by injection hq with hq; omega)⟩⟩
          case measure => simp [intOf]; omega
      · obtain rfl : k = d.arcs.length := by omega
        obtain ⟨q, hq, hM⟩ := HQ.out
        rw [List.take_of_length_le (by rw [HRL.out]; exact Nat.le_refl _)] at hM
        have HMEM := Aside0.mk hM
        have hc5 := cell_later (below_alloc HB.out (.map #[] 0)) hc4
        have x5 := cell_later (below_alloc HB.out (.map #[] 0)) x0
        have HM9 := Aside0.mk (mapIs_made 3 litI wr)
        have hcl : -1 ≤ cl R d.start ∧ cl R d.start < 3000 := by
          obtain ⟨m, hm⟩ := Int.eq_ofNat_of_zero_le s0
          rw [hm] at s1 ⊢
          have h1 := HCB.out m (by omega)
          have e : R.getD m 0 = cl R m := by
            rw [cl_nat, List.getD_eq_getElem?_getD, List.getD_eq_getElem?_getD, List.getElem?_eq_getElem (by rw [HRL.out]; omega)]
            rfl
          rwa [e] at h1
        have HKEY := Aside0.mk (keyI_of (k := cl R d.start) (WalkArith.wf_i64 (by omega)))
        obtain ⟨c0, hc0⟩ : ∃ c0, c0 = cl R d.start := ⟨_, rfl⟩
        rw [← hc0] at hc5 HKEY hcl hsb
        have HC0 := Aside0.mk hc0
        have HWZ := Aside0.mk (show (Lit.int .i64 0).wf = true from by decide)
        clear hM HQ hc0
        go_wp2_with (refine wpList_new litI_key litI_inj rfl _ _ _ 88 (.inr rfl) keyedI Tryd.underlying88 rfl HM9.out (by decide) _ c0 rfl HKEY.out rfl 0 rfl HWZ.out ?_; intro w9 hm9 hg9; have hc7 := hg9.cell hc5 (by simp; have := HB.out.size; omega); have x7 := hg9.cell x5 (by simp; have := HB.out.size; omega); have HN9 := Aside0.mk hm9; have HG9 := Aside0.mk hg9; clear hm9 hg9 hc5 x5)
        obtain ⟨wl, rfl⟩ : ∃ wl : World, wl = wr := ⟨_, rfl⟩
        have hs9 : wl.heap.size + 1 ≤ w9.heap.size := by have := HG9.out.size; simpa using this
        have hwl := HB.out.size
        have hmb : wc.heap.size ≠ wl.heap.size := by
          have := HMEM.out.lt
          omega
        have HMEM9 := Aside0.mk (show MapIs 3 litI ((w9.alloc (.cells #[.int .i64 c0] 3)).alloc (.cells #[.int .i64 0, .slice none 0 0, .slice none 0 0] 28)) wc.heap.size q (nfun R) from
          (((HMEM.out.later (below_alloc (Below.refl _ _) (.map #[] 0))).kept HG9.out (fun e => hmb (by injection e))).later (below_alloc (Below.refl _ _) _)).later (below_alloc (Below.refl _ _) _))
        have HMS := Aside0.mk (show MS ((w9.alloc (.cells #[.int .i64 c0] 3)).alloc (.cells #[.int .i64 0, .slice none 0 0, .slice none 0 0] 28)) wc.heap.size (w9.heap.size + 1) wl.heap.size (fun _ => True) (.slice none 0 0) (.slice none 0 0) (.slice none 0 0) (.slice none 0 0) (.slice (some ⟨w9.heap.size, 0, none⟩) 1 1) [] [] [c0] from by
          refine ⟨by omega, ?_, Kd.R_nil _ _ _ _ _, Kd.R_nil _ _ _ _ _, one_R (by omega) ?_, ?_, fun q _ h => by simp [Value.ownBlock] at h, hwl⟩
          · have h := heap_alloc_new (w9.alloc (.cells #[.int .i64 c0] 3)) (.cells #[.int .i64 0, .slice none 0 0, .slice none 0 0] 28)
            have e : (w9.alloc (.cells #[.int .i64 c0] 3)).heap.size = w9.heap.size + 1 := by simp
            rw [← e]
            exact h
          · rw [heap_alloc_old _ _ (by simp)]
            exact heap_alloc_new w9 _
          · have e := nfun_snoc (l := ([] : List Int)) (key := c0) rfl
            have h := (HN9.out.later (below_alloc (Below.refl _ _) (.cells #[.int .i64 c0] 3))).later (below_alloc (Below.refl _ _) (.cells #[.int .i64 0, .slice none 0 0, .slice none 0 0] 28))
            rw [List.nil_append] at e
            rw [← e]
            exact h)
        have HBI := Aside0.mk (show BInv d R [] [] [c0] from by rw [HC0.out]; exact bInv_start HOK.out HLV2.out)
        have HB9 := Aside0.mk (show Below wc.heap.size wc ((w9.alloc (.cells #[.int .i64 c0] 3)).alloc (.cells #[.int .i64 0, .slice none 0 0, .slice none 0 0] 28)) from
          (((HB.out.alloc hwl _).grown HG9.out (by simp; omega) (fun q hq => by injection hq with hq; omega)).alloc (by omega) _).alloc (by simp; omega) _)
        clear x7 hc7
        go_loopw [10, 12] (fun vo iv wr => ∃ i : Nat, iv = .int .i64 i ∧ i ≤ d.arcs.length ∧ Aside0 (∃ va vl arcs labs order, MS wr wc.heap.size (w9.heap.size + 1) wl.heap.size (fun _ => True) va vl va vl vo arcs labs order ∧ BInv d R arcs labs order ∧ arcs.length = i) ∧ Aside0 (MapIs 3 litI wr wc.heap.size q (nfun R)) ∧ Aside0 (Below wc.heap.size wc wr)) (fun _ i _ => d.arcs.length - (intOf i).toNat)
        case atStart => exact ⟨0, rfl, by omega, ⟨_, _, _, _, _, HMS.out, HBI.out, rfl⟩, HMEM9, HB9⟩
        case round =>
          obtain ⟨i, rfl, hin, HQ, HME, HBB⟩ := hrel
          obtain ⟨va, vl, arcs, labs, order, hMS, hBI, hai⟩ := HQ.out
          obtain ⟨Ao, co, rfl⟩ := Kd.R_slice hMS.ro
          have hon := hBI.o.len HRES.out
          by_cases hio : i < order.length
          · obtain ⟨go2, co2, e, hgo2, _, _⟩ := Kd.R_form hMS.ro (by omega)
            cases e
            obtain ⟨cO, _⟩ := Kd.R_celln 0 hMS.ro (i : Int) (by omega) (by omega)
            rw [Int.toNat_natCast] at cO
            have hci : order[i]? = some (order.getD i 0) := by rw [List.getD_eq_getElem?_getD, List.getElem?_eq_getElem hio]; rfl
            have erd : rdOf 0 order (i : Int) = order.getD i 0 := by unfold rdOf; rw [Int.toNat_natCast]
            rw [erd] at cO
            obtain ⟨c, hcc⟩ : ∃ c, c = order.getD i 0 := ⟨_, rfl⟩
            rw [← hcc] at cO hci
            obtain ⟨t1, ht1, hlt1, hct1⟩ := hBI.o.from_ c (List.mem_of_getElem? hci)
            have hc0 := HRES.out.live t1 ht1 hlt1
            rw [hct1] at hc0
            obtain ⟨sM, hix⟩ : ∃ sM, ix R c = some sM := by
              cases hx : ix R c with
              | some sM => exact ⟨sM, rfl⟩
              | none =>
                exfalso
                refine ix_none hx ?_
                rw [← hct1, cl_nat, List.getD_eq_getElem?_getD, List.getElem?_eq_getElem (by rw [HRES.out.len]; exact ht1)]
                exact List.getElem_mem _
            have hsR := ix_some hix
            have hsn : sM < d.n := by have := (List.getElem?_eq_some_iff.1 hsR).1; rw [HRES.out.len] at this; exact this
            have hscl : cl R sM = c := by rw [cl_nat, List.getD_eq_getElem?_getD, hsR]; rfl
            have hsl : Live d sM := by
              rcases Classical.em (Live d sM) with h | h
              · exact h
              · have := HRES.out.dead sM hsn h
                omega
            have hdn : d.n = d.arcs.length := rfl
            have hin2 : i < d.arcs.length := by omega
            have HKEY := Aside0.mk (keyI_of (k := c) (WalkArith.wf_i64 (by omega)))
            have hlk := HME.out.look1 keyedI Tryd.underlying88 HKEY.out (nfun_hit hix)
            have hbw := HBW2.out.trans (HBB.out.mono HBW2.out.size)
            have x6 := cell_later HBB.out x1
            have x8 := cell_later HBB.out x2
            obtain ⟨q1, o1, A0, c0', e, hb1, hc1, _, hrl⟩ := at_arcs HD.out.arcs sM (by omega)
            cases e
            have cA := (hbw.cell (p := ⟨q1, o1 + sM, none⟩) hb1).trans hc1
            obtain ⟨q2, o2, e, hb2, hc2⟩ := at_num HD.out.labs sM (by rw [N2.out]; omega)
            cases e
            have cL := (hbw.cell (p := ⟨q2, o2 + sM, none⟩) hb2).trans hc2
            rw [lab_at HOK.out (by omega)] at cL
            have hlm := HA.out (d.arcs.getD sM []) (by rw [List.getD_eq_getElem?_getD, List.getElem?_eq_getElem (by omega)]; exact List.getElem_mem _)
            obtain ⟨l, hl⟩ : ∃ l, l = d.arcs.getD sM [] := ⟨_, rfl⟩
            have hal : d.arc sM = l := by rw [hl]; unfold Dfa.arc; rw [Int.toNat_natCast]
            rw [← hl] at cA hrl hlm
            have HRW := Aside0.mk (Kd.C_below hrl hbw)
            have HTO := Aside0.mk (show ∀ a ∈ l, 0 ≤ a.to ∧ a.to < (R.length : Int) ∧ a.hi ≤ 1114111 ∧ 0 ≤ a.hi from fun a ha => by
              have h1 := okA_bounds (HOK.out.arc_ok sM) a (by rw [hal]; exact ha)
              have h2 : (d.n : Int) = R.length := by rw [HRL.out]; rfl
              omega)
            have HGR := Aside0.mk (show l.foldl (grpStep (cl R)) [] = grp (cl R) (d.arc sM) from by rw [foldl_grpStep, hal])
            have HGL := Aside0.mk (show (grp (cl R) (d.arc sM)).length ≤ 4294967296 from Nat.le_trans (grp_len _ _) (by rw [hal]; exact hlm))
            have HMS := Aside0.mk hMS
            have HBI2 := Aside0.mk hBI
            have HAI := Aside0.mk hai
            have HST := Aside0.mk (And.intro hci (And.intro hsn (And.intro hsl hscl)))
            have HBW4 := Aside0.mk hbw
            obtain ⟨y, hy⟩ : ∃ y, y = d.lab (sM : Int) := ⟨_, rfl⟩
            rw [← hy] at cL
            have HY := Aside0.mk hy
            have sM0 : (sM : Int) < (d.arcs.length : Int) := by omega
            have sM1 : (sM : Int) < (d.labels.length : Int) := by rw [N2.out]; omega
            have hol : order.length ≤ 3000 := by omega
            clear hci erd hcc hlt1 ht1 hct1 hix hsR hsn hscl hsl hdn hbw hc1 hc2 hrl hl hal hy hai hMS hBI HQ
            go_wp2_with fail
            refine (grouped_n A0 c0' l (some ⟨gc, 0, none⟩) cc R d.arcs.length HRL.out _ HRW.out (Kd.C_below HC.out HBB.out) HTO.out hlm).mono ?_
            rintro e wg ⟨vL, rfl, hR6, hb6⟩
            rw [HGR.out] at hR6
            obtain ⟨g, hg⟩ : ∃ g, g = grp (cl R) (d.arc sM) := ⟨_, rfl⟩
            rw [← hg] at hR6 HGL
            have HG := Aside0.mk hg
            obtain ⟨AL, cL', rfl⟩ := Kd.R_slice hR6
            have hgl : g.length ≤ 4294967296 := HGL.out
            have HMSg := Aside0.mk (HMS.out.elder hb6 (Kd.R_base hR6))
            have HRg := Aside0.mk (Kd.R_tight rfl (Kd.R_lower hR6 HBB.out.size))
            have HMEg := Aside0.mk (HME.out.later hb6)
            have HBg := Aside0.mk (HBB.out.trans (hb6.mono HBB.out.size))
            have HSI := Aside0.mk (sInv_start HBI2.out.o g)
            clear hR6 hb6 hg cA cO hlk
            go_wp2
            go_loopw [10, 88] (fun vo jv wr => ∃ j : Nat, j ≤ g.length ∧ jv = .int .i64 j ∧ Aside0 (∃ st Ao co, vo = .slice Ao st.2.length co ∧ SInv d R order g j st ∧ MS wr wc.heap.size (w9.heap.size + 1) wl.heap.size (fun q => some q ≠ (Value.slice AL g.length cL').ownBlock) va vl va vl (.slice Ao st.2.length co) arcs labs st.2 ∧ kArc.R 54 wr wc.heap.size (fun q => some q = (Value.slice AL g.length cL').ownBlock) (.slice AL g.length cL') (st.1 ++ g.drop j)) ∧
              Aside0 (MapIs 3 litI wr wc.heap.size q (nfun R)) ∧ Aside0 (Below wc.heap.size wc wr)) (fun _ j _ => g.length - (intOf j).toNat)
            case atStart => exact ⟨0, Nat.zero_le _, rfl, ⟨_, _, _, rfl, HSI.out, HMSg.out, by simpa using HRg.out⟩, HMEg, HBg⟩
            case round =>
              obtain ⟨j, hj, rfl, HQ3, HM3, HB3⟩ := hrel
              obtain ⟨st, Ao3, co3, rfl, hSI, hMS3, hrow⟩ := HQ3.out
              have hsl := hSI.len hj
              have hol3 := hSI.o.len HRES.out
              have hol4 : st.2.length ≤ 3000 := by have := HOK.out.lim; omega
              by_cases hjl : j < g.length
              · have hrl : (st.1 ++ g.drop j).length = g.length := by rw [List.length_append, hsl, List.length_drop]; omega
                obtain ⟨gl, cg2, e, hgl0, hgl1, cgs, hgc⟩ := Kd.R_form hrow (by omega)
                rw [hrl] at e
                cases e
                obtain ⟨cs, _, hM, hcz, hfz⟩ := Kd.R_elem hrow default (j : Int) (by omega) (by omega)
                rw [Int.toNat_natCast, at_next _ _ _ hsl] at hM
                obtain rfl := kArc_openM hM
                have e3 : (j : Int).toNat * kArc.sz = j * 3 := by rw [Int.toNat_natCast]; rfl
                have z0 := hcz 0 _ rfl
                have z1 := hcz 1 _ rfl
                have z2 := hcz 2 _ rfl
                have f2 := hfz 2
                rw [e3] at z0 z1 z2 f2
                simp only [Nat.add_zero] at z0
                have hgj : g[j]? = some (g.getD j default) := by rw [List.getD_eq_getElem?_getD, List.getElem?_eq_getElem hjl]; rfl
                have hcls := grp_class HOK.out HRES.out (s := (sM : Int)) (a := g.getD j default) (by rw [← HG.out]; exact List.mem_of_getElem? hgj)
                obtain ⟨a, ha⟩ : ∃ a, a = g.getD j default := ⟨_, rfl⟩
                rw [← ha] at z0 z1 z2 hgj hcls
                have hto : 0 ≤ a.to ∧ a.to < 3000 := by
                  obtain ⟨m, h1, h2, h3⟩ := hcls
                  have h4 := HRES.out.live m h1 h2
                  have h5 := HOK.out.lim
                  omega
                have hNX := sInv_step hSI hgj hcls
                have HKEY := Aside0.mk (keyI_of (k := a.to) (WalkArith.wf_i64 (by omega)))
                have hnum := hMS3.num.later (below_alloc (Below.refl _ _) (.cells #[.int .i32 a.lo, .int .i32 a.hi, .int .i64 a.to] 54))
                have hj1 : (j : Int) < (g.length : Int) := by omega
                have hokg : ∀ q, some q ≠ (Value.slice (some ⟨gl, 0, none⟩) g.length cL').ownBlock → q ≠ gl := fun q hq e => hq (by rw [e]; rfl)
                have hmgl := HM3.out.ne_cells hgc
                have HOKG := Aside0.mk hokg
                have HMGL := Aside0.mk hmgl
                cases hix : ix st.2 a.to with
                | some i3 =>
                  have hlk := hnum.hit keyedI Tryd.underlying88 HKEY.out (nfun_hit hix)
                  rw [rstep_hit hix] at hNX
                  have HNX := Aside0.mk hNX
                  have hput := (R_flat_put kArc arcCells (fun _ => rfl) kArc_flat hrow j 2 (by omega) (by decide) ⟨a.lo, a.hi, (i3 : Int)⟩ (.int .i64 i3) (by
                    have : (st.1 ++ g.drop j)[j]'(by omega) = a := by
                      have h := at_next st.1 g j hsl default
                      rw [List.getD_eq_getElem?_getD, List.getElem?_eq_getElem (by omega)] at h
                      exact h.trans ha.symm
                    rw [this]
                    rfl)).1
                  rw [put_next _ _ _ _ hsl hjl] at hput
                  have HR3 := Aside0.mk (show kArc.R 54 ((wr.setCell ⟨gl, j * 3 + 2, none⟩ (.int .i64 i3)).alloc (.cells #[.int .i32 a.lo, .int .i32 a.hi, .int .i64 a.to] 54)) wc.heap.size (fun q => some q = (Value.slice (some ⟨gl, 0, none⟩) g.length cL').ownBlock) (Value.slice (some ⟨gl, 0, none⟩) g.length cL') ((st.1 ++ [(⟨a.lo, a.hi, (i3 : Int)⟩ : Arc)]) ++ g.drop (j + 1)) from Kd.R_alloc hput (.cells #[.int .i32 a.lo, .int .i32 a.hi, .int .i64 a.to] 54))
                  have HMS4 := Aside0.mk ((hMS3.put hokg hgc (j * 3 + 2) (.int .i64 i3)).later (below_alloc (Below.refl _ _) (.cells #[.int .i32 a.lo, .int .i32 a.hi, .int .i64 a.to] 54)))
                  have HM4 := Aside0.mk ((HM3.out.setCell (p := ⟨gl, j * 3 + 2, none⟩) (Ne.symm hmgl) (.int .i64 i3)).later (below_alloc (Below.refl _ _) (.cells #[.int .i32 a.lo, .int .i32 a.hi, .int .i64 a.to] 54)))
                  have HB4 := Aside0.mk ((HB3.out.setCell (p := ⟨gl, j * 3 + 2, none⟩) hgl0 (.int .i64 i3)).alloc (by have := HB3.out.size; simp [World.setCell]; omega) (.cells #[.int .i32 a.lo, .int .i32 a.hi, .int .i64 a.to] 54))
                  clear hix hNX hput hnum hSI hMS3 hrow hM hcz hfz e3 ha hgj hcls hokg hmgl HQ3 hgc hrl hol3
                  go_wp2
                  go_roundw
                  case rel => exact ⟨j + 1, by omega, by go_num, ⟨(st.1 ++ [(⟨a.lo, a.hi, (i3 : Int)⟩ : Arc)], st.2), Ao3, co3, rfl, HNX.out, HMS4.out, HR3.out⟩, HM4, HB4⟩
                  case measure => simp [intOf]; omega
                | none =>
                  have hlk := hnum.miss keyedI Tryd.underlying88 HKEY.out (nfun_miss hix)
                  rw [rstep_miss hix] at hNX
                  have HNX := Aside0.mk hNX
                  have HMI := Aside0.mk (nfun_miss hix)
                  have HFN := Aside0.mk (nfun_snoc hix)
                  have HWF := Aside0.mk (show (Lit.int .i64 (st.2.length : Int)).wf = true from WalkArith.wf_i64 (by omega))
                  have HNUM := Aside0.mk hnum
                  have hn3 : st.2.length < 1000000 := by omega
                  have hat : ∀ h, (st.1 ++ g.drop j)[j]'h = a := by
                    intro hh
                    have h := at_next st.1 g j hsl default
                    rw [List.getD_eq_getElem?_getD, List.getElem?_eq_getElem (by omega)] at h
                    exact h.trans ha.symm
                  have HAT := Aside0.mk hat
                  have HMS3 := Aside0.mk (hMS3.later (below_alloc (Below.refl _ _) (.cells #[.int .i32 a.lo, .int .i32 a.hi, .int .i64 a.to] 54)))
                  have HROW := Aside0.mk (Kd.R_alloc hrow (.cells #[.int .i32 a.lo, .int .i32 a.hi, .int .i64 a.to] 54))
                  have HHJ := Aside0.mk (And.intro hsl hrl)
                  have HA10 := Aside0.mk ha.symm
                  have E3 := Aside0.mk e3
                  have HM4 := Aside0.mk (HM3.out.later (below_alloc (Below.refl _ _) (.cells #[.int .i32 a.lo, .int .i32 a.hi, .int .i64 a.to] 54)))
                  have hB4 := HB3.out.alloc HB3.out.size (.cells #[.int .i32 a.lo, .int .i32 a.hi, .int .i64 a.to] 54)
                  have HB4 := Aside0.mk hB4
                  have hsz4 : wr.heap.size + 1 = (wr.alloc (.cells #[.int .i32 a.lo, .int .i32 a.hi, .int .i64 a.to] 54)).heap.size := by simp
                  have hnlt := hMS3.num.lt
                  have HGC := Aside0.mk (show ∃ cgs, (wr.alloc (.cells #[.int .i32 a.lo, .int .i32 a.hi, .int .i64 a.to] 54)).heap[gl]? = some (.cells cgs 54 (0, 0)) from ⟨cgs, by rw [heap_alloc_old _ _ hgl1]; exact hgc⟩)
                  clear hix hNX hnum hSI hMS3 hrow hM hcz hfz e3 ha hgj hcls hokg hmgl HQ3 hgc hrl hol3 hat hB4
                  go_wp2_with (first
                    | (at_mapUpdate; refine wpList_new litI_key litI_inj rfl _ _ _ 88 (.inl rfl) keyedI Tryd.underlying88 rfl HNUM.out hn3 _ a.to rfl HKEY.out HMI.out (st.2.length : Int) rfl HWF.out ?_; intro w8 hm8 hg8; have e8 := hg8.cell (a := ⟨wr.heap.size, 2, none⟩) (v := .int .i64 a.to) (by simp) (by simp; omega); have hr8 := row_map HMS3.out.ro (fun h => HMS3.out.num.ne_cells h) hg8; have hz8 : wr.heap.size + 1 ≤ w8.heap.size := (by have := hg8.size; omega); have HM8 := Aside0.mk hm8; have HG8 := Aside0.mk hg8; have HR8 := Aside0.mk hr8; clear hm8 hg8 hr8)
                    | (at_builtin; refine Kd.R_append (Kd.int .i64) (w0 := wc) wc.heap.size rfl _ _ 26 3 (.int .i64 0) 8 rfl Tryd.underlying26 infoInt rfl (by decide) (by omega) (.slice Ao3 st.2.length co3) st.2 a.to [.int .i64 a.to] (fun _ => True) (fun _ => False) rfl (by first | (go_simp; done) | (go_simp; rfl)) rfl (fun _ hk => hk.elim) (fun _ _ => trivial) ?aO ?aB ?aS ?aL ?_; (case aO => exact HR8.out); (case aB => exact HB4.out.grown HG8.out (by have := HB3.out.size; simp; omega) (fun q hq => by injection hq with hq; omega)); (case aS => have := HB3.out.size; omega); (case aL => omega); intro v1 w10 hR10 hB10 hg10 hat10; obtain ⟨Ao4, co4, rfl⟩ := Kd.R_slice hR10; have HR10 := Aside0.mk hR10; have HB10 := Aside0.mk hB10; have HG10 := Aside0.mk hg10; have HAT10 := Aside0.mk hat10; have hrow10 := Kd.R_over' (row_map HROW.out (fun h => HMS3.out.num.ne_cells h) HG8.out) (Kd.R_typed HR8.out) (fun q hq => by rw [arc_E hq]; decide) hg10; obtain ⟨cs10, _, hM10, hcz10, hfz10⟩ := Kd.R_elem hrow10 default (j : Int) (by omega) (by omega); rw [Int.toNat_natCast, at_next _ _ _ HHJ.out.1, HA10.out] at hM10; obtain rfl := kArc_openM hM10; have z10 := hcz10 2 _ rfl; have f10 := hfz10 2; rw [E3.out] at z10 f10; have HROW10 := Aside0.mk hrow10; clear hR10 hB10 hg10 hat10 hrow10 hM10 hcz10 hfz10))
                  have hM10 : MapIs 3 litI w8 wl.heap.size (st.2.length + 1) (nfun (st.2 ++ [a.to])) := by rw [← HFN.out]; exact HM8.out
                  have hMS10 := HMS3.out.newClass hM10 HG8.out (Below.refl _ _) HR10.out HG10.out HAT10.out
                  obtain ⟨cg10, hg10⟩ := Kd.R_typed HROW10.out gl rfl
                  have hMS11 := hMS10.put HOKG.out hg10 (j * 3 + 2) (.int .i64 st.2.length)
                  have hput := (R_flat_put kArc arcCells (fun _ => rfl) kArc_flat HROW10.out j 2 (by rw [HHJ.out.2]; exact hjl) (by decide) ⟨a.lo, a.hi, (st.2.length : Int)⟩ (.int .i64 st.2.length) (by
                    rw [HAT.out]
                    rfl)).1
                  rw [put_next _ _ _ _ HHJ.out.1 hjl] at hput
                  have hm10 := (HM4.out.kept HG8.out (fun e => hmb (by injection e))).kept HG10.out (fun e => by
                    obtain ⟨cells, hc⟩ := Kd.R_typed HR8.out wc.heap.size e.symm
                    exact (HM4.out.kept HG8.out (fun e => hmb (by injection e))).ne_cells hc rfl)
                  have hm11 := hm10.setCell (p := ⟨gl, j * 3 + 2, none⟩) (Ne.symm (hm10.ne_cells hg10)) (.int .i64 st.2.length)
                  have hb11 := HB10.out.setCell (p := ⟨gl, j * 3 + 2, none⟩) hgl0 (.int .i64 st.2.length)
                  have esl : (st.2 ++ [a.to]).length = st.2.length + 1 := by simp
                  go_roundw
                  case rel => exact ⟨j + 1, by omega, by go_num, ⟨(st.1 ++ [(⟨a.lo, a.hi, (st.2.length : Int)⟩ : Arc)], st.2 ++ [a.to]), Ao4, co4, by rw [esl], HNX.out, hMS11, hput⟩, ⟨hm11⟩, ⟨hb11⟩⟩
                  case measure => simp [intOf]; omega
              · obtain rfl : j = g.length := by omega
                rw [List.drop_length, List.append_nil] at hrow
                have hbn := bInv_row HBI2.out (by rw [HAI.out]; exact HST.out.1) HST.out.2.1 HST.out.2.2.1 HST.out.2.2.2 (st := st) (by rw [← HG.out]; exact hSI)
                rw [← HY.out] at hbn
                have HBN := Aside0.mk hbn
                have HMSt := Aside0.mk hMS3
                have HROW := Aside0.mk hrow
                clear hSI hMS3 hrow hbn HQ3
                obtain ⟨q2', o2', e, hb2', hc2'⟩ := at_num HD.out.labs sM (by omega)
                cases e
                have hcL := (HBW2.out.cell (p := ⟨q2, o2 + sM, none⟩) hb2').trans hc2'
                rw [lab_at HOK.out (by omega), ← HY.out] at hcL
                have HCD := Aside0.mk (show ∀ W : World, Below wc.heap.size wr W → W.cell? ⟨w.heap.size, 2, none⟩ = some (.slice (some ⟨q2, o2, none⟩) d.labels.length c2) ∧ W.cell? ⟨q2, o2 + sM, none⟩ = some (.int .i64 y) from fun W hb =>
                  ⟨cell_later (HB3.out.trans hb) x2, cell_later (HB3.out.trans hb) hcL⟩)
                have HAL := Aside0.mk (show arcs.length ≤ 100000 from by have := HBI2.out.le; omega)
                have HBL := Aside0.mk (show labs.length ≤ 100000 from by have := HBI2.out.le; have := HBI2.out.lenl; omega)
                have HC0 := Aside0.mk (show Mid wr wr.drew (fun q => some q ≠ (Value.slice AL g.length cL').ownBlock) wc.heap.size (w9.heap.size + 1) wl.heap.size va vl va vl (.slice Ao3 st.2.length co3) arcs labs st.2 (.slice AL g.length cL') st.1 y none none from
                  ⟨HMSt.out.later (below_drew (Below.refl _ _)), Kd.R_drew HROW.out, (fun b hb => by cases hb), (fun b hb => by cases hb), (Below.refl _ _).drew, HB3.out.size, fun b es c hb => hb⟩)
                clear hc2' hcL
                go_wp2_with fail
                have hC := HC0.out
                refine start_ (n := 18) (S := fun w' => w'.cell? ⟨w9.heap.size + 1, 1, none⟩ = some va ∧ w'.cell? ⟨w9.heap.size + 1, 2, none⟩ = some vl ∧ w'.cell? ⟨w.heap.size, 2, none⟩ = some (.slice (some ⟨q2, o2, none⟩) d.labels.length c2) ∧ w'.cell? ⟨q2, o2 + sM, none⟩ = some (.int .i64 y)) (ds := [15, 17]) #[false, false, false, false, false, false, false, false, false, false, false, false, false, false, false, false, false, false] (by kernel_rfl) rfl rfl ⟨hC.cells.1, hC.cells.2.1, (HCD.out _ hC.below).1, (HCD.out _ hC.below).2⟩ (fun hHeld => ?_)
                refine pure_ (i := 0) (N := some 119) (v := ?_) (a' := ?_) #[true, false, false, false, false, false, false, false, false, false, false, false, false, false, false, false, false, false] rfl rfl (by kernel_rfl) (fun _ _ _ h => h) (Or.inl ⟨by rfl, ?_⟩) ?_ ?_
                rotate_left
                · intro w'
                  go_simp
                  with_reducible rfl
                rotate_left
                · simp only [Act.put, List.setIfInBounds_toArray, List.set_cons_zero, List.set_cons_succ, i64_w, i32_w]
                  rfl
                refine pure_ (i := 2) (N := some 121) (v := ?_) (a' := ?_) #[true, false, true, false, false, false, false, false, false, false, false, false, false, false, false, false, false, false] rfl rfl (by kernel_rfl) (fun _ _ _ h => h) (Or.inl ⟨by rfl, ?_⟩) ?_ ?_
                rotate_left
                · intro w'
                  go_simp
                  with_reducible rfl
                rotate_left
                · simp only [Act.put, List.setIfInBounds_toArray, List.set_cons_zero, List.set_cons_succ, i64_w, i32_w]
                  rfl
                refine pure_ (i := 5) (N := some 124) (v := ?_) (a' := ?_) #[true, false, true, false, false, true, false, false, false, false, false, false, false, false, false, false, false, false] rfl rfl (by kernel_rfl) (fun _ _ _ h => h) (Or.inl ⟨by rfl, ?_⟩) ?_ ?_
                rotate_left
                · intro w'
                  go_simp
                  with_reducible rfl
                rotate_left
                · simp only [Act.put, List.setIfInBounds_toArray, List.set_cons_zero, List.set_cons_succ, i64_w, i32_w]
                  rfl
                refine pure_ (i := 7) (N := some 126) (v := ?_) (a' := ?_) #[true, false, true, false, false, true, false, true, false, false, false, false, false, false, false, false, false, false] rfl rfl (by kernel_rfl) (fun _ _ _ h => h) (Or.inl ⟨by rfl, ?_⟩) ?_ ?_
                rotate_left
                · intro w'
                  go_simp
                  with_reducible rfl
                rotate_left
                · simp only [Act.put, List.setIfInBounds_toArray, List.set_cons_zero, List.set_cons_succ, i64_w, i32_w]
                  rfl
                refine pure_ (i := 9) (N := some 128) (v := ?_) (a' := ?_) #[true, false, true, false, false, true, false, true, false, true, false, false, false, false, false, false, false, false] rfl rfl (by kernel_rfl) (fun _ _ _ h => h) (Or.inl ⟨by rfl, ?_⟩) ?_ ?_
                rotate_left
                · intro w'
                  go_simp
                  with_reducible rfl
                rotate_left
                · simp only [Act.put, List.setIfInBounds_toArray, List.set_cons_zero, List.set_cons_succ, i64_w, i32_w]
                  rfl
                refine take_ (i := 1) (N := some 120) (v := ?_) (a' := ?_) #[true, true, true, false, false, true, false, true, false, true, false, false, false, false, false, false, false, false] rfl rfl (by kernel_rfl) (fun _ _ _ h => h) (Or.inl ⟨by rfl, ?_⟩) hHeld ?_ ?_
                rotate_left
                · rintro w' ⟨s0, s1, s2, s3⟩
                  go_simp
                  with_reducible rfl
                rotate_left
                · simp only [Act.put, List.setIfInBounds_toArray, List.set_cons_zero, List.set_cons_succ, i64_w, i32_w]
                  rfl
                refine take_ (i := 6) (N := some 125) (v := ?_) (a' := ?_) #[true, true, true, false, false, true, true, true, false, true, false, false, false, false, false, false, false, false] rfl rfl (by kernel_rfl) (fun _ _ _ h => h) (Or.inl ⟨by rfl, ?_⟩) hHeld ?_ ?_
                rotate_left
                · rintro w' ⟨s0, s1, s2, s3⟩
                  go_simp
                  with_reducible rfl
                rotate_left
                · simp only [Act.put, List.setIfInBounds_toArray, List.set_cons_zero, List.set_cons_succ, i64_w, i32_w]
                  rfl
                refine take_ (i := 8) (N := some 127) (v := ?_) (a' := ?_) #[true, true, true, false, false, true, true, true, true, true, false, false, false, false, false, false, false, false] rfl rfl (by kernel_rfl) (fun _ _ _ h => h) (Or.inl ⟨by rfl, ?_⟩) hHeld ?_ ?_
                rotate_left
                · rintro w' ⟨s0, s1, s2, s3⟩
                  go_simp
                  with_reducible rfl
                rotate_left
                · simp only [Act.put, List.setIfInBounds_toArray, List.set_cons_zero, List.set_cons_succ, i64_w, i32_w]
                  rfl
                refine pure_ (i := 10) (N := some 129) (v := ?_) (a' := ?_) #[true, true, true, false, false, true, true, true, true, true, true, false, false, false, false, false, false, false] rfl rfl (by kernel_rfl) (fun _ _ _ h => h) (Or.inl ⟨by rfl, ?_⟩) ?_ ?_
                rotate_left
                · intro w'
                  go_simp
                  with_reducible rfl
                rotate_left
                · simp only [Act.put, List.setIfInBounds_toArray, List.set_cons_zero, List.set_cons_succ, i64_w, i32_w]
                  rfl
                refine take_ (i := 11) (N := some 130) (v := ?_) (a' := ?_) #[true, true, true, false, false, true, true, true, true, true, true, true, false, false, false, false, false, false] rfl rfl (by kernel_rfl) (fun _ _ _ h => h) (Or.inl ⟨by rfl, ?_⟩) hHeld ?_ ?_
                rotate_left
                · rintro w' ⟨s0, s1, s2, s3⟩
                  go_simp
                  with_reducible rfl
                rotate_left
                · simp only [Act.put, List.setIfInBounds_toArray, List.set_cons_zero, List.set_cons_succ, i64_w, i32_w]
                  rfl
                refine join_ (σ := (Value × Value) × Value) 4 #[true, true, true, true, true, true, true, true, true, true, true, true, true, false, true, false, false, false] (fun s => [(122, s.1.1), (123, s.1.2), (131, s.2), (133, Value.pointer (some ⟨w9.heap.size + 1, 1, none⟩))]) (fun s w3 => ∃ b : Nat, s.2 = Value.slice (some ⟨b, 0, none⟩) 1 1 ∧ Mid wr w3 (fun _ => True) wc.heap.size (w9.heap.size + 1) wl.heap.size va vl s.1.2 vl (.slice Ao3 st.2.length co3) (arcs ++ [st.1]) labs st.2 (.slice AL g.length cL') st.1 y none (some b)) ?_ ?_
                rotate_left
                · intro hCont
                  refine two_ (i := 3) (j := 12) (Ni := some 122) (Nj := some 131) #[true, true, true, true, false, true, true, true, true, true, true, true, false, false, false, false, false, false] #[true, true, true, false, false, true, true, true, true, true, true, true, true, false, false, false, false, false] rfl rfl rfl rfl (by kernel_rfl) (by decide) (by decide) (fun K hK => ?_) (fun K hK => ?_)
                  · skip
                    refine value_ (w1 := ?_) (v := ?_) (by rfl) rfl ?_ ?_
                    rotate_left 2
                    · go_simp
                      constructor
                      · rfl
                      · rfl
                    have hC := hC.lay1 (B := wr.heap.size) (by simp)
                    refine hK.out _ _ ⟨hC.cells.1, hC.cells.2.1, (HCD.out _ hC.below).1, (HCD.out _ hC.below).2⟩ (fun hHeld => ?_)
                    clear hK K
                    refine norm_ (a' := ?_) ?_ ?_
                    rotate_left
                    · show Act.put _ (some 122) _ = _
                      simp only [Act.put, List.setIfInBounds_toArray, List.set_cons_zero, List.set_cons_succ, i64_w, i32_w]
                      rfl
                    refine two_ (i := 4) (j := 12) (Ni := some 123) (Nj := some 131) #[true, true, true, true, true, true, true, true, true, true, true, true, false, false, false, false, false, false] #[true, true, true, true, false, true, true, true, true, true, true, true, true, false, false, false, false, false] rfl rfl rfl rfl (by kernel_rfl) (by decide) (by decide) (fun K hK => ?_) (fun K hK => ?_)
                    · skip
                      refine Mid.stepA (by rfl) _ _ (by rfl) hC (by rfl) (by rfl) HAL.out ?_
                      intro vA wA hC
                      refine hK.out _ _ ⟨hC.cells.1, hC.cells.2.1, (HCD.out _ hC.below).1, (HCD.out _ hC.below).2⟩ (fun hHeld => ?_)
                      clear hK K
                      refine norm_ (a' := ?_) ?_ ?_
                      rotate_left
                      · show Act.put _ (some 123) _ = _
                        simp only [Act.put, List.setIfInBounds_toArray, List.set_cons_zero, List.set_cons_succ, i64_w, i32_w]
                        rfl
                      refine pure_ (i := 14) (N := some 133) (v := ?_) (a' := ?_) #[true, true, true, true, true, true, true, true, true, true, true, true, false, false, true, false, false, false] rfl rfl (by kernel_rfl) (fun _ _ _ h => h) (Or.inl ⟨by rfl, ?_⟩) ?_ ?_
                      rotate_left
                      · intro w'
                        go_simp
                        with_reducible rfl
                      rotate_left
                      · simp only [Act.put, List.setIfInBounds_toArray, List.set_cons_zero, List.set_cons_succ, i64_w, i32_w]
                        rfl
                      refine one_ (i := 12) (N := some 131) #[true, true, true, true, true, true, true, true, true, true, true, true, true, false, true, false, false, false] rfl rfl (by kernel_rfl) (by decide) (fun K hK => ?_)
                      refine value_ (w1 := ?_) (v := ?_) (by rfl) rfl ?_ ?_
                      rotate_left 2
                      · go_simp
                        constructor
                        · rfl
                        · rfl
                      have hC := hC.lay2 (B := wA.heap.size) (by simp)
                      refine hK.out _ _ ⟨hC.cells.1, hC.cells.2.1, (HCD.out _ hC.below).1, (HCD.out _ hC.below).2⟩ (fun hHeld => ?_)
                      clear hK K
                      refine norm_ (a' := ?_) ?_ ?_
                      rotate_left
                      · show Act.put _ (some 131) _ = _
                        simp only [Act.put, List.setIfInBounds_toArray, List.set_cons_zero, List.set_cons_succ, i64_w, i32_w]
                        rfl
                      exact norm_ (by first | (simp only [putAll, Act.put, List.setIfInBounds_toArray, List.set_cons_zero, List.set_cons_succ]; done) | (simp only [putAll, Act.put, List.setIfInBounds_toArray, List.set_cons_zero, List.set_cons_succ]; rfl)) (hCont ((Value.slice (some ⟨wr.heap.size, 0, none⟩) 1 1, vA), Value.slice (some ⟨wA.heap.size, 0, none⟩) 1 1) _ ⟨wA.heap.size, rfl, hC⟩)
                    · skip
                      refine value_ (w1 := ?_) (v := ?_) (by rfl) rfl ?_ ?_
                      rotate_left 2
                      · go_simp
                        constructor
                        · rfl
                        · rfl
                      have hC := hC.lay2 (B := wr.heap.size + 1) (by simp)
                      refine hK.out _ _ ⟨hC.cells.1, hC.cells.2.1, (HCD.out _ hC.below).1, (HCD.out _ hC.below).2⟩ (fun hHeld => ?_)
                      clear hK K
                      refine norm_ (a' := ?_) ?_ ?_
                      rotate_left
                      · show Act.put _ (some 131) _ = _
                        simp only [Act.put, List.setIfInBounds_toArray, List.set_cons_zero, List.set_cons_succ, i64_w, i32_w]
                        rfl
                      refine one_ (i := 4) (N := some 123) #[true, true, true, true, true, true, true, true, true, true, true, true, true, false, false, false, false, false] rfl rfl (by kernel_rfl) (by decide) (fun K hK => ?_)
                      refine Mid.stepA (by rfl) _ _ (by rfl) hC (by rfl) (by rfl) HAL.out ?_
                      intro vA wA hC
                      refine hK.out _ _ ⟨hC.cells.1, hC.cells.2.1, (HCD.out _ hC.below).1, (HCD.out _ hC.below).2⟩ (fun hHeld => ?_)
                      clear hK K
                      refine norm_ (a' := ?_) ?_ ?_
                      rotate_left
                      · show Act.put _ (some 123) _ = _
                        simp only [Act.put, List.setIfInBounds_toArray, List.set_cons_zero, List.set_cons_succ, i64_w, i32_w]
                        rfl
                      refine pure_ (i := 14) (N := some 133) (v := ?_) (a' := ?_) #[true, true, true, true, true, true, true, true, true, true, true, true, true, false, true, false, false, false] rfl rfl (by kernel_rfl) (fun _ _ _ h => h) (Or.inl ⟨by rfl, ?_⟩) ?_ ?_
                      rotate_left
                      · intro w'
                        go_simp
                        with_reducible rfl
                      rotate_left
                      · simp only [Act.put, List.setIfInBounds_toArray, List.set_cons_zero, List.set_cons_succ, i64_w, i32_w]
                        rfl
                      exact norm_ (by first | (simp only [putAll, Act.put, List.setIfInBounds_toArray, List.set_cons_zero, List.set_cons_succ]; done) | (simp only [putAll, Act.put, List.setIfInBounds_toArray, List.set_cons_zero, List.set_cons_succ]; rfl)) (hCont ((Value.slice (some ⟨wr.heap.size, 0, none⟩) 1 1, vA), Value.slice (some ⟨wr.heap.size + 1, 0, none⟩) 1 1) _ ⟨wr.heap.size + 1, rfl, hC⟩)
                  · skip
                    refine value_ (w1 := ?_) (v := ?_) (by rfl) rfl ?_ ?_
                    rotate_left 2
                    · go_simp
                      constructor
                      · rfl
                      · rfl
                    have hC := hC.lay2 (B := wr.heap.size) (by simp)
                    refine hK.out _ _ ⟨hC.cells.1, hC.cells.2.1, (HCD.out _ hC.below).1, (HCD.out _ hC.below).2⟩ (fun hHeld => ?_)
                    clear hK K
                    refine norm_ (a' := ?_) ?_ ?_
                    rotate_left
                    · show Act.put _ (some 131) _ = _
                      simp only [Act.put, List.setIfInBounds_toArray, List.set_cons_zero, List.set_cons_succ, i64_w, i32_w]
                      rfl
                    refine one_ (i := 3) (N := some 122) #[true, true, true, true, false, true, true, true, true, true, true, true, true, false, false, false, false, false] rfl rfl (by kernel_rfl) (by decide) (fun K hK => ?_)
                    refine value_ (w1 := ?_) (v := ?_) (by rfl) rfl ?_ ?_
                    rotate_left 2
                    · go_simp
                      constructor
                      · rfl
                      · rfl
                    have hC := hC.lay1 (B := wr.heap.size + 1) (by simp)
                    refine hK.out _ _ ⟨hC.cells.1, hC.cells.2.1, (HCD.out _ hC.below).1, (HCD.out _ hC.below).2⟩ (fun hHeld => ?_)
                    clear hK K
                    refine norm_ (a' := ?_) ?_ ?_
                    rotate_left
                    · show Act.put _ (some 122) _ = _
                      simp only [Act.put, List.setIfInBounds_toArray, List.set_cons_zero, List.set_cons_succ, i64_w, i32_w]
                      rfl
                    refine one_ (i := 4) (N := some 123) #[true, true, true, true, true, true, true, true, true, true, true, true, true, false, false, false, false, false] rfl rfl (by kernel_rfl) (by decide) (fun K hK => ?_)
                    refine Mid.stepA (by rfl) _ _ (by rfl) hC (by rfl) (by rfl) HAL.out ?_
                    intro vA wA hC
                    refine hK.out _ _ ⟨hC.cells.1, hC.cells.2.1, (HCD.out _ hC.below).1, (HCD.out _ hC.below).2⟩ (fun hHeld => ?_)
                    clear hK K
                    refine norm_ (a' := ?_) ?_ ?_
                    rotate_left
                    · show Act.put _ (some 123) _ = _
                      simp only [Act.put, List.setIfInBounds_toArray, List.set_cons_zero, List.set_cons_succ, i64_w, i32_w]
                      rfl
                    refine pure_ (i := 14) (N := some 133) (v := ?_) (a' := ?_) #[true, true, true, true, true, true, true, true, true, true, true, true, true, false, true, false, false, false] rfl rfl (by kernel_rfl) (fun _ _ _ h => h) (Or.inl ⟨by rfl, ?_⟩) ?_ ?_
                    rotate_left
                    · intro w'
                      go_simp
                      with_reducible rfl
                    rotate_left
                    · simp only [Act.put, List.setIfInBounds_toArray, List.set_cons_zero, List.set_cons_succ, i64_w, i32_w]
                      rfl
                    exact norm_ (by first | (simp only [putAll, Act.put, List.setIfInBounds_toArray, List.set_cons_zero, List.set_cons_succ]; done) | (simp only [putAll, Act.put, List.setIfInBounds_toArray, List.set_cons_zero, List.set_cons_succ]; rfl)) (hCont ((Value.slice (some ⟨wr.heap.size + 1, 0, none⟩) 1 1, vA), Value.slice (some ⟨wr.heap.size, 0, none⟩) 1 1) _ ⟨wr.heap.size, rfl, hC⟩)
                rintro ⟨⟨v122, v123⟩, v131⟩ w3 ⟨b3, h131, hC⟩
                dsimp only at h131 hC
                subst h131
                obtain ⟨A6, c6, rfl⟩ := Kd.R_slice hC.ms.ra
                have hHeld : w3.cell? ⟨w9.heap.size + 1, 1, none⟩ = some va ∧ w3.cell? ⟨w9.heap.size + 1, 2, none⟩ = some vl ∧ w3.cell? ⟨w.heap.size, 2, none⟩ = some (.slice (some ⟨q2, o2, none⟩) d.labels.length c2) ∧ w3.cell? ⟨q2, o2 + sM, none⟩ = some (.int .i64 y) := ⟨hC.cells.1, hC.cells.2.1, (HCD.out _ hC.below).1, (HCD.out _ hC.below).2⟩
                refine norm_ (a' := ?_) ?_ ?_
                rotate_left
                · simp only [putAll, Act.put, List.setIfInBounds_toArray, List.set_cons_zero, List.set_cons_succ]
                  rfl
                refine one_ (i := 13) (N := some 132) #[true, true, true, true, true, true, true, true, true, true, true, true, true, true, true, false, false, false] rfl rfl (by kernel_rfl) (by decide) (fun K hK => ?_)
                refine Mid.stepB (by rfl) _ _ (by rfl) hC (by rfl) (by rfl) HBL.out ?_
                intro vB wB hC
                obtain ⟨A7, c7, rfl⟩ := Kd.R_slice hC.ms.rl
                obtain ⟨u1, u2, fz1, fz2⟩ := hC.cells
                refine hK.out _ _ ⟨hC.cells.1, hC.cells.2.1, (HCD.out _ hC.below).1, (HCD.out _ hC.below).2⟩ (fun hHeld => ?_)
                clear hK K
                refine norm_ (a' := ?_) ?_ ?_
                rotate_left
                · show Act.put _ (some 132) _ = _
                  simp only [Act.put, List.setIfInBounds_toArray, List.set_cons_zero, List.set_cons_succ, i64_w, i32_w]
                  rfl
                refine last_ (i := 15) (N := none) #[true, true, true, true, true, true, true, true, true, true, true, true, true, true, true, true, false, false] rfl rfl (by kernel_rfl) (by decide) (fun K hK => ?_)
                refine skip_ (w1 := ?_) (by rfl) rfl ?_ ?_
                rotate_left
                · go_simp
                  rfl
                refine hK.out _ _ ?_
                clear hK K
                refine pure_ (i := 16) (N := some 134) (v := ?_) (a' := ?_) #[true, true, true, true, true, true, true, true, true, true, true, true, true, true, true, true, true, false] rfl rfl (by kernel_rfl) (fun _ _ _ h => h) (Or.inl ⟨by rfl, ?_⟩) ?_ ?_
                rotate_left
                · intro w'
                  go_simp
                  with_reducible rfl
                rotate_left
                · simp only [Act.put, List.setIfInBounds_toArray, List.set_cons_zero, List.set_cons_succ, i64_w, i32_w]
                  rfl
                refine last_ (i := 17) (N := none) #[true, true, true, true, true, true, true, true, true, true, true, true, true, true, true, true, true, true] rfl rfl (by kernel_rfl) (by decide) (fun K hK => ?_)
                refine skip_ (w1 := ?_) (by rfl) rfl ?_ ?_
                rotate_left
                · go_simp
                  rfl
                refine hK.out _ _ ?_
                clear hK K
                refine done_ (by kernel_rfl) ?_
                have HMEF := Aside0.mk (hC.ms.close.2 (HM3.out.same (fun es c h => hC.maps _ es c h)))
                have HBF := Aside0.mk (((HB3.out.trans hC.below).setCell (p := ⟨w9.heap.size + 1, 1, none⟩) hC.ms.bo (.slice A6 (arcs ++ [st.1]).length c6)).setCell (p := ⟨w9.heap.size + 1, 2, none⟩) hC.ms.bo (.slice A7 (labs ++ [y]).length c7))
                have HMF := Aside0.mk hC.ms.close.1
                have ea : (arcs ++ [st.1]).length = arcs.length + 1 := by simp
                have eb : (labs ++ [y]).length = labs.length + 1 := by simp
                rw [ea, eb] at HMEF HBF HMF
                clear hC ea eb
                go_wp2
                go_roundw
                case rel => exact ⟨i + 1, by go_num, by omega, ⟨_, _, _, _, _, HMF.out, HBN.out, by rw [List.length_append, HAI.out]; rfl⟩, HMEF, ⟨HBF.out⟩⟩
                case measure => simp [intOf]; omega
          · have HMS := Aside0.mk hMS
            have hol : order.length ≤ 3000 := by unfold Dfa.n at hon; omega
            have hge : order.length ≤ i := by omega
            have hio2 : order.length = arcs.length := by have := hBI.le; omega
            obtain ⟨_, hyS, hzS, hbwS, _, hhS⟩ := box2_later (HBC.out.trans (HBB.out.mono hsz2))
            have yS0 := hyS 0 _ rfl
            have yS1 := hyS 1 _ rfl
            have yS2 := hyS 2 _ rfl
            simp only [List.getElem_toArray, List.getElem_cons_zero, List.getElem_cons_succ] at yS0 yS1 yS2
            have zS0 := hzS 0
            have zS1 := hzS 1
            have zS2 := hzS 2
            obtain ⟨o0, o1, o2⟩ := put3_cells hMS.box
            have hrr : ∀ (j : Nat) (u : Value) (W : World) (c : Array Value), W.heap[w.heap.size + 1]? = some (.cells c 28 (0, 0)) → kArcs.R 50 W wc.heap.size (fun _ => True) va arcs → (Kd.int .i64).R 3 W wc.heap.size (fun _ => True) vl labs →
                kArcs.R 50 (W.setCell ⟨w.heap.size + 1, j, none⟩ u) wc.heap.size (fun _ => True) va arcs ∧ (Kd.int .i64).R 3 (W.setCell ⟨w.heap.size + 1, j, none⟩ u) wc.heap.size (fun _ => True) vl labs ∧ ∃ c', (W.setCell ⟨w.heap.size + 1, j, none⟩ u).heap[w.heap.size + 1]? = some (.cells c' 28 (0, 0)) := by
              intro j u W c hc h1 h2
              refine ⟨Kd.R_set h1 hc (fun q hq => by rcases arcs_E hq with h | h <;> rw [h] <;> decide) j u, Kd.R_set h2 hc (fun q hq => by rw [int_E hq]; decide) j u, ?_⟩
              simp [World.setCell, Array.getElem?_modify, hc]
            obtain ⟨r1, l1, cc1, h1⟩ := hrr 0 (.int .i64 0) wr _ hhS hMS.ra hMS.rl
            obtain ⟨r2, l2, cc2, h2⟩ := hrr 1 va _ _ h1 r1 l1
            obtain ⟨r3, l3, cc3, h3⟩ := hrr 2 vl _ _ h2 r2 l2
            have HP := put3 hhS (.int .i64 0) va vl
            have HPB := ((hbwS.setCell (p := ⟨w.heap.size + 1, 0, none⟩) (by simp) (.int .i64 0)).setCell (p := ⟨w.heap.size + 1, 1, none⟩) (by simp) va).setCell (p := ⟨w.heap.size + 1, 2, none⟩) (by simp) vl
            obtain ⟨B1, k1, rfl⟩ := Kd.R_slice r3
            obtain ⟨B2, k2, rfl⟩ := Kd.R_slice l3
            have hwcb := HBW2.out.size
            have HF := Aside0.mk (show MinRes d ⟨0, arcs, labs⟩ from .inr ⟨HLV2.out, rfl, R, order, HRES.out, hBI, hio2⟩)
            have HR1 := Aside0.mk (Kd.R_lower r3 hwcb)
            have HR2 := Aside0.mk (Kd.R_lower l3 hwcb)
            have HP2 := Aside0.mk HP
            have HPB2 := Aside0.mk HPB
            clear hrr r1 r2 r3 l1 l2 l3 h1 h2 h3 HP HPB hhS hbwS hzS hyS hMS hBI HMS HQ hon hio2 hai
            go_wp2
            have hp := HP2.out
            have hpb := HPB2.out
            have hr1 := HR1.out
            have hr2 := HR2.out
            generalize hWF : (((wr.setCell ⟨w.heap.size + 1, 0, none⟩ (.int .i64 0)).setCell ⟨w.heap.size + 1, 1, none⟩ (.slice B1 arcs.length k1)).setCell ⟨w.heap.size + 1, 2, none⟩ (.slice B2 labs.length k2)) = WF at hp hpb hr1 hr2 ⊢
            obtain ⟨p0, p1, p2⟩ := put3_cells hp
            refine bodyPost_ret (v := .agg #[.int .i64 0, .slice B1 arcs.length k1, .slice B2 labs.length k2]) (by simp [results, Tryd.results23, go_sem, p0, p1, p2]) rfl ?_
            exact ⟨⟨0, arcs, labs⟩, _, _, _, _, rfl, ⟨hr1, hr2⟩, HF.out, hpb⟩
end Go.Proofs.YthohahcpdgebbaaDoor.Wk
