/- Proved: what a part of the given program (its deterministic automata, and the functions that they call) computes, and laws on that, under the conditions that each theorem names. -/
import Derived.Test.YthohahcpdgebbaaDoorJB
import Derived.Test.YthohahcpdgebbaaDoorJA
import Derived.Test.YthohahcpdgebbaaDoorJCheckD
import Derived.Deep.RegionLaw
namespace Go.Proofs.YthohahcpdgebbaaDoor.Wk
open Go.RowKit Go.Proofs.YthohahcpdgebbaaDoorW.PrintWords Go.Proofs.YthohahcpdgebbaaDoorW.PrintLast Go.Proofs.YthohahcpdgebbaaDoorW.PrintMore
open Go.Proofs.YthohahcpdgebbaaDoor.Th
set_option linter.unusedVariables false
set_option linter.unusedSimpArgs false
theorem infoInts : (Tryd.prog.info? 26).map (fun i => (i.zero, i.size, i.bytes)) = some (some (.slice none 0 0), 1, 24) := by kernel_rfl
theorem at_ints {w : World} {A : Option Addr} {n : Nat} {xs : List (List Int)} (h : Kd.C kInts w A n xs) (i : Nat) (hi : i < n) :
    ∃ b o A0 c0, A = some ⟨b, o, none⟩ ∧ b < w.heap.size ∧ w.cell? ⟨b, o + i, none⟩ = some (.slice A0 (xs.getD i []).length c0) ∧ (xs.getD i []).length ≤ c0 ∧ (Kd.int .i64).C w A0 (xs.getD i []).length (xs.getD i []) := by
  obtain ⟨b, o, e, hb, hc⟩ := C_lit h (by omega) (by decide) []
  obtain ⟨c, _, hK, hc⟩ := hc i hi
  obtain ⟨A0, c0, rfl, l0, g0⟩ := hK
  have := hc 0 _ rfl
  rw [show o + i * kInts.sz + 0 = o + i by simp [kInts, Kd.slice]] at this
  exact ⟨b, o, A0, c0, e, hb, this, l0, g0⟩
theorem us_start {w : World} {base : Nat} {v1 : Value} {bs : List Bool} (h : Kd.bool.R 4 w base (fun _ => True) v1 bs) (hb : base ≤ w.heap.size) :
    US ((w.alloc (.cells #[v1] 118)).alloc (.cells #[.slice none 0 0] 26)) base w.heap.size (w.heap.size + 1) v1 bs [] := by
  refine ⟨hb, by omega, by omega, ?_, Kd.R_alloc (Kd.R_alloc h _) _, _, ?_, Kd.R_nil _ _ _ _ _⟩
  · rw [heap_alloc_old _ _ (by simp)]
    exact heap_alloc_new w _
  · have e := heap_alloc_new (w.alloc (.cells #[v1] 118)) (.cells #[.slice none 0 0] 26)
    have e2 : (w.alloc (.cells #[v1] 118)).heap.size = w.heap.size + 1 := by simp
    rw [← e2]
    exact e
theorem us_pop {w : World} {base p1 p2 : Nat} {v1 : Value} {bs : List Bool} {ts : List Int} {s : Int} (h : US w base p1 p2 v1 bs (ts ++ [s])) :
    ∃ A c, w.cell? ⟨p2, 0, none⟩ = some (.slice A (ts.length + 1) c) ∧ w.frozen? ⟨p2, 0, none⟩ = false ∧ ts.length + 1 ≤ c ∧ (∃ b, A = some ⟨b, 0, none⟩ ∧ w.cell? ⟨b, ts.length, none⟩ = some (.int .i64 s)) ∧
      US (w.setCell ⟨p2, 0, none⟩ (.slice A ts.length c)) base p1 p2 v1 bs ts ∧ Below base w (w.setCell ⟨p2, 0, none⟩ (.slice A ts.length c)) := by
  obtain ⟨k1, k2, k3, k4, k5, v2, k6, k7⟩ := h
  have el : (ts ++ [s]).length = ts.length + 1 := by simp
  obtain ⟨g, cap, rfl, _, _, _⟩ := Kd.R_form k7 (by simp)
  rw [el] at k6 k7
  obtain ⟨x1, x2, x3⟩ := cell_head k6
  obtain ⟨y1, _⟩ := Kd.R_celln 0 k7 (ts.length : Int) (by omega) (by omega)
  have ey : rdOf 0 (ts ++ [s]) (ts.length : Int) = s := by simp [rdOf]
  rw [ey, Int.toNat_natCast] at y1
  obtain ⟨_, hcap, _⟩ := Kd.R_reads' k7
  have ht := Kd.R_take k7 (m := ts.length) (by simp)
  rw [show (ts ++ [s]).take ts.length = ts by simp] at ht
  refine ⟨_, cap, x1, x2, hcap, ⟨g, rfl, y1⟩, ⟨k1, k2, k3, by rw [Below.heap_setCell _ _ _ _ k3]; exact k4, ?_, _, set_head k6 _, ?_⟩, (Below.refl _ _).setCell (p := ⟨p2, 0, none⟩) k2 _⟩
  · exact Kd.R_set k5 k6 (fun q hq => by
      have hq' : q = 4 := by simpa [Kd.bool, Kd.scalar] using hq
      rw [hq']; decide) 0 _
  · exact Kd.R_set ht k6 (fun q hq => by
      have hq' : q = 3 := by simpa [Kd.int, Kd.scalar] using hq
      rw [hq']; decide) 0 _
set_option maxHeartbeats 4000000 in
set_option maxRecDepth 100000 in
theorem useful_calls (d : Dfa) (hok : Ok d) (A1 : Option Addr) (c1 : Nat) (A2 : Option Addr) (c2 : Nat) (w : World) (hd : RdD w d A1 c1 A2 c2) (harc : ∀ l ∈ d.arcs, l.length ≤ 4294967296) :
    Calls Tryd.prog 79 #[.agg #[.int .i64 d.start, .slice A1 d.arcs.length c1, .slice A2 d.labels.length c2]] w fun e w' => ∃ v bs, e = .returned v ∧ Kd.bool.R 4 w' w.heap.size (fun _ => True) v bs ∧ (bs.length = d.n ∧ ∀ s : Nat, s < d.n → (bs.getD s false = true ↔ Live d s)) ∧ Below w.heap.size w w' := by
  obtain ⟨m1, m2⟩ := hd.max
  have HD := Aside0.mk hd
  have HOK := Aside0.mk hok
  have HA := Aside0.mk harc
  have n0 : 1 ≤ d.arcs.length := hok.pos
  have n1 : d.arcs.length ≤ 3000 := hok.lim
  have n2 : d.labels.length = d.arcs.length := hok.len
  have N2 := Aside0.mk n2
  clear hd harc hok n2
  go_enter Tryd.func79, Tryd.ntmps79
  have hrep : (List.replicate d.arcs.length ([] : List Int)).length = d.arcs.length := List.length_replicate
  have HREP := Aside0.mk hrep
  clear hrep
  go_wp2_with (refine Kd.S_make kInts (w0 := w.alloc (.cells #[.int .i64 d.start, .slice A1 d.arcs.length c1, .slice A2 d.labels.length c2] 28)) (w.heap.size + 1) 26 rfl rfl 44 _ _ rfl (d.arcs.length : Int) rfl rfl Tryd.underlying44 (.slice none 0 0) 24 infoInts rfl (by decide) (by decide) [] (ok := fun _ => True) (okp := fun _ => False) ⟨_, rfl, Kd.R_nil _ _ _ _ _⟩ (fun _ _ => trivial) trivial (by omega) (by omega) (Below.refl _ _) (by simp) ?_; intro v1 w1 hS hB hg hat; rw [Int.toNat_natCast] at hS; obtain ⟨g, cap, rfl, hg0, hg1, hg2⟩ := Kd.S_form hS (by rw [HREP.out]; omega); rw [HREP.out] at hS; have HS := Aside0.mk hS; have HB := Aside0.mk hB; obtain ⟨hbox, hbel, hws⟩ := box_later hB; have x1 := hbox 1 _ rfl; have x2 := hbox 2 _ rfl; clear hg hat hg2 hS hB hbox hbel)
  go_loopw [23] (fun i wr => ∃ k : Nat, k ≤ d.arcs.length ∧ i = .int .i64 k ∧ Aside0 (∃ bk, Kd.S kInts 26 wr (w.heap.size + 1) (fun _ => True) (.slice (some ⟨g, 0, none⟩) d.arcs.length cap) bk ∧ BkInv d 4294967296 k 0 bk) ∧ Aside0 (Below (w.heap.size + 1) (w.alloc (.cells #[.int .i64 d.start, .slice A1 d.arcs.length c1, .slice A2 d.labels.length c2] 28)) wr)) (fun i _ => d.arcs.length - (intOf i).toNat)
  case atStart => exact ⟨0, by omega, rfl, ⟨_, HS.out, bkInv_start d _⟩, HB⟩
  case round =>
    obtain ⟨k, hk, rfl, HQ, HB⟩ := hrel
    by_cases hlt : k < d.arcs.length
    · obtain ⟨hbox, hbel, hwz⟩ := box_later HB.out
      obtain ⟨q1, o1, A0, c0, e, hb1, hc1, _, hrl⟩ := at_arcs HD.out.arcs k hlt
      cases e
      replace hc1 := (hbel.cell (p := ⟨q1, o1 + k, none⟩) hb1).trans hc1
      have HRL := Aside0.mk hrl
      have HLM := Aside0.mk (HA.out (d.arcs.getD k []) (by rw [List.getD_eq_getElem?_getD, List.getElem?_eq_getElem hlt]; exact List.getElem_mem hlt))
      have HLL := Aside0.mk (show d.arc k = d.arcs.getD k [] from rfl)
      obtain ⟨l, hl⟩ : ∃ l, l = d.arcs.getD k [] := ⟨_, rfl⟩
      rw [← hl] at hc1 HRL HLM HLL
      have hll : l.length ≤ 4294967296 := HLM.out
      clear hl hrl hbox hbel
      go_wp2
      obtain ⟨wo, rfl⟩ : ∃ wo : World, wo = wr := ⟨_, rfl⟩
      go_loopw [30] (fun i wi => ∃ j : Nat, j ≤ l.length ∧ i = .int .i64 j ∧ Aside0 (∃ bk, Kd.S kInts 26 wi (w.heap.size + 1) (fun _ => True) (.slice (some ⟨g, 0, none⟩) d.arcs.length cap) bk ∧ BkInv d 4294967296 k j bk) ∧ Aside0 (Below (w.heap.size + 1) wo wi)) (fun i _ => l.length - (intOf i).toNat)
      case atStart => exact ⟨0, by omega, rfl, HQ, ⟨Below.refl _ _⟩⟩
      case round =>
        obtain ⟨j, hj, rfl, HQ2, HB2⟩ := hrel
        by_cases hjl : j < l.length
        · obtain ⟨hbox, hbel, hwz⟩ := box_later (HB.out.trans HB2.out)
          obtain ⟨b0, o0, e, hb0, hx0, hx1, hx2⟩ := at_arc (Kd.C_below HRL.out hbel) j hjl
          cases e
          obtain ⟨bk, hS, hI⟩ := HQ2.out
          have hpI := bkInv_push HOK.out (j := j) hI (by rw [HLL.out]; exact hjl)
          rw [HLL.out] at hpI
          have hto : 0 ≤ (l.getD j default).to ∧ (l.getD j default).to < d.arcs.length := by
            have hm : l.getD j default ∈ l := by rw [List.getD_eq_getElem?_getD, List.getElem?_eq_getElem hjl]; exact List.getElem_mem hjl
            have ho := HOK.out.arc_ok k
            rw [HLL.out] at ho
            obtain ⟨h1, h2, _⟩ := stp_range ho (stp_arc ho hm).2
            exact ⟨h1, h2⟩
          obtain ⟨a, ha⟩ : ∃ a, a = l.getD j default := ⟨_, rfl⟩
          rw [← ha] at hx0 hx1 hx2 hpI hto
          obtain ⟨t0, t1⟩ := hto
          have hsz := hI.size a.to.toNat
          obtain ⟨oki, A, c, hcb, hR, hne, hcont⟩ := bk_push (Kd.S_alloc hS (.cells #[.int .i32 a.lo, .int .i32 a.hi, .int .i64 a.to] 54)) a.to t0 t1
          obtain ⟨xs, hxs⟩ : ∃ xs, xs = bk.getD a.to.toNat [] := ⟨_, rfl⟩
          rw [← hxs] at hcb hR hne hcont hsz
          have hown := Kd.own_of_R hR
          have hna : (Value.slice A xs.length c).ownBlock ≠ some wr.heap.size := fun he => Kd.R_ne hR (heap_alloc_new wr (.cells #[.int .i32 a.lo, .int .i32 a.hi, .int .i64 a.to] 54)) (by decide) he.symm
          have hgs : g < wr.heap.size := Kd.S_lt hS g (by simp [Value.ownBlock])
          have hn : xs.length + 1 ≤ maxLen := by unfold maxLen; omega
          have hb : (xs.length + 1) * 8 ≤ 140737488355328 := by omega
          obtain ⟨i0, hi0, hz0, hz1, hz2⟩ := info_parts infoInt
          have HN := Aside0.mk hn
          have HBB := Aside0.mk hb
          have HC := Aside0.mk hcont
          have HPI := Aside0.mk hpI
          have HOW := Aside0.mk hown
          have HNE := Aside0.mk hne
          have HNA := Aside0.mk hna
          have hsz2 : w.heap.size + 1 ≤ wr.heap.size := by omega
          have HBLK : Aside0 ((((wr.alloc (.cells #[.int .i32 a.lo, .int .i32 a.hi, .int .i64 a.to] 54)).alloc (.cells #[.int .i64 k] 3)).drew).heap[wr.heap.size + 1]? = some (.cells #[.int .i64 k] 3 (0, 0))) := ⟨by
            have h := heap_alloc_new (wr.alloc (.cells #[.int .i32 a.lo, .int .i32 a.hi, .int .i64 a.to] 54)) (.cells #[.int .i64 k] 3)
            have e : (wr.alloc (.cells #[.int .i32 a.lo, .int .i32 a.hi, .int .i64 a.to] 54)).heap.size = wr.heap.size + 1 := by simp
            rw [← e]
            exact h⟩
          have HQ1 : Aside0 ((((wr.alloc (.cells #[.int .i32 a.lo, .int .i32 a.hi, .int .i64 a.to] 54)).alloc (.cells #[.int .i64 k] 3)).drew).cell? ⟨wr.heap.size, 2, none⟩ = some (.int .i64 a.to)) := ⟨by simp⟩
          have HQ2' : Aside0 ((((wr.alloc (.cells #[.int .i32 a.lo, .int .i32 a.hi, .int .i64 a.to] 54)).alloc (.cells #[.int .i64 k] 3)).drew).cell? ⟨g, a.to.toNat, none⟩ = some (.slice A xs.length c)) := ⟨by
            have h := World.cell?_alloc_some (wr.alloc (.cells #[.int .i32 a.lo, .int .i32 a.hi, .int .i64 a.to] 54)) ⟨g, a.to.toNat, none⟩ (.cells #[.int .i64 k] 3) (by rw [hcb]; rfl)
            exact h.trans hcb⟩
          have HBL3 : Aside0 (Below (w.heap.size + 1) wo ((wr.alloc (.cells #[.int .i32 a.lo, .int .i32 a.hi, .int .i64 a.to] 54)).alloc (.cells #[.int .i64 k] 3)).drew ∧ w.heap.size + 1 ≤ (((wr.alloc (.cells #[.int .i32 a.lo, .int .i32 a.hi, .int .i64 a.to] 54)).alloc (.cells #[.int .i64 k] 3)).drew).heap.size) := ⟨((HB2.out.alloc hsz2 _).alloc (by simp; omega) _).drew, by simp; omega⟩
          have HOKI := Aside0.mk hR.1
          have HBASE := Aside0.mk (Kd.R_base hR)
          have HNQ : Aside0 (∀ W1 : World, ((wr.alloc (.cells #[.int .i32 a.lo, .int .i32 a.hi, .int .i64 a.to] 54)).alloc (.cells #[.int .i64 k] 3)).drew.grownBy W1 (Value.slice A xs.length c).ownBlock → (wr.alloc (.cells #[.int .i32 a.lo, .int .i32 a.hi, .int .i64 a.to] 54)).heap.size ≤ W1.heap.size ∧ ∀ k, k < (wr.alloc (.cells #[.int .i32 a.lo, .int .i32 a.hi, .int .i64 a.to] 54)).heap.size → some k ≠ (Value.slice A xs.length c).ownBlock → W1.heap[k]? = (wr.alloc (.cells #[.int .i32 a.lo, .int .i32 a.hi, .int .i64 a.to] 54)).heap[k]?) := ⟨fun W1 hg => ⟨Nat.le_trans (by simp) hg.size, fun k hk hn => (hg.block k (Nat.lt_of_lt_of_le hk (by simp)) hn).trans (heap_alloc_old _ _ hk)⟩⟩
          clear hn hb hcont hpI hown hS hI hxs hsz ha hbox hbel hne hna HQ2 HQ
          clear hR
          go_wp2_with fail
          go_region_law
            ((refine step_append_lies _ (by rfl) _ _ _ (by rfl) (w.heap.size + 1) 3 i0 _ 1 8 Tryd.underlying26 hi0 hz0 hz1 hz2 rfl (by omega) (.slice A xs.length c) xs.length _ (by rfl) ((HOW.out.alloc _).drew) ⟨wr.heap.size + 1, 0, none⟩ 1 1 [.int .i64 k] (by rfl) (by rfl) (World.news_of_block HBLK.out) (by simp [Value.oneCell']) (by omega) HN.out HBB.out (by simp; omega) (wr.heap.size + 2) (by simp) ?_; intro gg cap1 w1 hown1 hgrow hat hlt; have s1 := (hgrow.cell_far ⟨wr.heap.size, 2, none⟩ (by simp; omega) (Ne.symm HNA.out)).trans HQ1.out; have s2 := (hgrow.cell_far ⟨g, a.to.toNat, none⟩ (by simp; omega) HNE.out).trans HQ2'.out; obtain ⟨_, hu2, hu3, _⟩ := HC.out w1 _ k (HNQ.out w1 hgrow).1 (HNQ.out w1 hgrow).2 (ints_R hown1 hat HOKI.out (by simp)); have HU := Aside0.mk hu3; have HGR := Aside0.mk hgrow; clear hu3 hown1))
          all_goals (go_wp2; go_roundw; (case rel => refine ⟨j + 1, by omega, by go_num, ⟨_, ?_, HPI.out⟩, ⟨?_⟩⟩; (exact HU.out); (exact (HBL3.out.1.grown HGR.out HBL3.out.2 HBASE.out).setCell (p := ⟨g, a.to.toNat, none⟩) hg0 _)); (case measure => simp [intOf]; omega))
        · obtain rfl : j = l.length := by omega
          go_wp2
          go_roundw
          case rel => exact ⟨k + 1, by omega, by go_num, ⟨by
            obtain ⟨bk, h1, h2⟩ := HQ2.out
            exact ⟨bk, h1, bkInv_next (by rw [HLL.out]; exact h2) (by rw [HLL.out]; exact HLM.out)⟩⟩, ⟨HB.out.trans HB2.out⟩⟩
          case measure => simp [intOf]; omega
    · obtain rfl : k = d.arcs.length := by omega
      obtain ⟨hbox, hbel, hwz⟩ := box_later HB.out
      have x1 := hbox 1 _ rfl
      have x2 := hbox 2 _ rfl
      obtain ⟨bk, hS, hI⟩ := HQ.out
      have HBK := Aside0.mk (bkInv_end hI)
      have hC := (Kd.S_reads' hS).2.2
      rw [← (Kd.S_reads' hS).1] at hC
      have HC := Aside0.mk hC
      have HBL := Aside0.mk hbel
      have HBOX := Aside0.mk hbox
      obtain ⟨wb, rfl⟩ : ∃ wb : World, wb = wr := ⟨_, rfl⟩
      clear hS hI hC hbox hbel HQ
      go_wp2_with (refine Kd.R_make Kd.bool (w0 := wb) wb.heap.size 4 rfl rfl 118 _ _ rfl (d.arcs.length : Int) rfl rfl Tryd.underlying118 (.bool false) 1 infoBool rfl (by decide) (by decide) false (ok := fun _ => True) (okp := fun _ => False) rfl (fun _ _ => trivial) trivial (by omega) (by omega) (Below.refl _ _) (Nat.le_refl _) ?_; intro v2 w2 hR hB2 hg hat; rw [Int.toNat_natCast] at hR; obtain ⟨A3, c3, rfl⟩ := Kd.R_slice hR; rw [List.length_replicate] at hR; have HR := Aside0.mk hR; have HBM := Aside0.mk hB2; have y1 := (hB2.cell (p := ⟨w.heap.size, 1, none⟩) hwz).trans x1;  have y2 := (hB2.cell (p := ⟨w.heap.size, 2, none⟩) hwz).trans x2; have lw := Nat.lt_of_lt_of_le hwz hB2.size; have ln := World.new_ne _ _ y2; clear hg hat hR hB2)
      have HUS := Aside0.mk (us_start HR.out HBM.out.size)
      have HBM2 := Aside0.mk ((HBM.out.alloc HBM.out.size (.cells #[.slice A3 d.arcs.length c3] 118)).alloc (by simp; have := HBM.out.size; omega) (.cells #[.slice none 0 0] 26))
      have HLB := Aside0.mk (show ∀ k : Nat, k < d.n → d.labels.getD k 0 = d.lab k from fun k hk => by
        unfold Dfa.lab
        rw [List.getD_eq_getElem?_getD, List.getD_eq_getElem?_getD, List.getElem?_eq_getElem (show k < d.labels.length by rw [N2.out]; exact hk)]
        simp [List.getElem?_eq_getElem (show k < d.labels.length by rw [N2.out]; exact hk)])
      go_loopw [56] (fun i wr => ∃ k : Nat, k ≤ d.labels.length ∧ i = .int .i64 k ∧ Aside0 (∃ bs ts, US wr wb.heap.size w2.heap.size (w2.heap.size + 1) (.slice A3 d.arcs.length c3) bs ts ∧ MInv d bs ts (fun _ => False) ∧ ∀ s : Nat, s < k → d.lab s ≠ -1 → bs.getD s false = true) ∧ Aside0 (Below wb.heap.size wb wr)) (fun i _ => d.labels.length - (intOf i).toNat)
      case atStart => exact ⟨0, by omega, rfl, ⟨_, _, HUS.out, mInv_start d _, fun s hs => by omega⟩, HBM2⟩
      case round =>
        obtain ⟨k, hk, rfl, HQ, HB3⟩ := hrel
        by_cases hlt : k < d.labels.length
        · obtain ⟨q2, o2, e, hb2, hc2⟩ := at_num HD.out.labs k hlt
          cases e
          have hbw := HBL.out.trans (HB3.out.mono HBL.out.size)
          replace hc2 := (hbw.cell (p := ⟨q2, o2 + k, none⟩) hb2).trans hc2
          have hkn : k < d.n := by have : d.labels.length = d.n := N2.out; omega
          have hly := HLB.out k hkn
          obtain ⟨y, hy⟩ : ∃ y, y = d.labels.getD k 0 := ⟨_, rfl⟩
          rw [← hy] at hc2 hly
          have HLY := Aside0.mk hly
          obtain ⟨bs, ts, hU, hM, hL⟩ := HQ.out
          clear hy hly hbw
          by_cases hy1 : y = -1
          · subst hy1
            have HNX := Aside0.mk (show ∀ s : Nat, s < k + 1 → d.lab s ≠ -1 → bs.getD s false = true from fun s hs hl => by
              rcases Nat.lt_or_ge s k with h | h
              · exact hL s h hl
              · obtain rfl : s = k := by omega
                exact absurd HLY.out.symm hl)
            have HU := Aside0.mk hU
            have HM := Aside0.mk hM
            clear hU hM hL HQ HLY
            go_wp2
            go_roundw
            case rel => exact ⟨k + 1, by omega, by go_num, ⟨bs, ts, HU.out, HM.out, HNX.out⟩, HB3⟩
            case measure => simp [intOf]; omega
          · have hyb : (y != -1) = true := bne_iff_ne.2 hy1
            have hlive := Live.lab (d := d) (s := k) (by rw [← HLY.out]; exact hy1)
            have hmk := mInv_mark hM (s := (k : Int)) (by omega) (by omega) hlive
            have HNX := Aside0.mk (show ∀ s : Nat, s < k + 1 → d.lab s ≠ -1 → (markB bs (k : Int)).getD s false = true from fun s hs hl => by
              rcases Nat.lt_or_ge s k with h | h
              · exact mark_mono (hL s h hl)
              · obtain rfl : s = k := by omega
                exact mark_self (s := (s : Int)) (by rw [hM.len]; exact hkn))
            have HU := Aside0.mk hU
            have HM := Aside0.mk hmk.1
            have HCN := Aside0.mk (show ts.length ≤ 100000 from by have h1 := hM.cnt; have h2 : d.n ≤ 3000 := HOK.out.lim; omega)
            have HLN := Aside0.mk (show (k : Int) < bs.length from by rw [hM.len]; omega)
            clear hU hM hL HQ HLY hlive hmk hy1
            go_wp2_with fail
            refine (mark_calls (k : Int) wb.heap.size w2.heap.size (w2.heap.size + 1) _ bs ts _ HU.out (by omega) HLN.out HCN.out HB3.out.size).mono ?_
            rintro e w3 ⟨rfl, hus, hb3⟩
            have HUS3 := Aside0.mk hus
            have HB4 := Aside0.mk (HB3.out.trans hb3)
            clear hus hb3
            go_wp2
            go_roundw
            case rel => exact ⟨k + 1, by omega, by go_num, ⟨_, _, HUS3.out, HM.out, HNX.out⟩, HB4⟩
            case measure => simp [intOf]; omega
        · obtain rfl : k = d.labels.length := by omega
          have hk2 : d.labels.length = d.n := N2.out
          rw [hk2] at HQ
          clear hk2
          obtain ⟨bs0, ts0, hU0, hM0, hL0⟩ := HQ.out
          obtain ⟨N, hN⟩ : ∃ N, N = 2 * bs0.count false + ts0.length := ⟨_, rfl⟩
          have HQ0 := Aside0.mk (show ∃ bs ts, 2 * bs.count false + ts.length = N ∧ US wr wb.heap.size w2.heap.size (w2.heap.size + 1) (.slice A3 d.arcs.length c3) bs ts ∧ MInv d bs ts (fun _ => False) ∧ ∀ s : Nat, s < d.n → d.lab s ≠ -1 → bs.getD s false = true from ⟨bs0, ts0, hN.symm, hU0, hM0, hL0⟩)
          clear hU0 hM0 hL0 hN HQ
          go_wp2
          go_loopg [13] N (fun g v wr => Aside0 (∃ bs ts, 2 * bs.count false + ts.length = g ∧ US wr wb.heap.size w2.heap.size (w2.heap.size + 1) (.slice A3 d.arcs.length c3) bs ts ∧ MInv d bs ts (fun _ => False) ∧ ∀ s : Nat, s < d.n → d.lab s ≠ -1 → bs.getD s false = true) ∧ Aside0 (Below wb.heap.size wb wr))
          case atStart => exact ⟨HQ0, HB3⟩
          case round =>
            obtain ⟨HQ, HB4⟩ := hrel
            obtain ⟨bs, ts, hg, hU, hM, hL⟩ := HQ.out
            have z0 := (cell_head hU.c1).1
            rcases List.eq_nil_or_concat ts with hnil | ⟨pre, s, hcat⟩
            · subst hnil
              obtain ⟨v2, k6, k7⟩ := hU.c2
              obtain ⟨A4, c4, rfl⟩ := Kd.R_slice k7
              have z2 := (cell_head k6).1
              have HF := Aside0.mk (mInv_end HOK.out hM hL)
              have HR2 := Aside0.mk (Kd.R_lower hU.r1 HBL.out.size)
              have HB5 := Aside0.mk (HBL.out.trans (HB4.out.mono HBL.out.size))
              clear hU hM hL HQ k6 k7 hg
              go_wp2
              go_ret
              exact ⟨_, bs, rfl, HR2.out, HF.out, HB5.out⟩
            · rw [List.concat_eq_append] at hcat
              subst hcat
              obtain ⟨s0, s1, s2⟩ := hM.todo s (by simp)
              have hsl : Live d s := by
                have := hM.sound s.toNat s2
                rwa [Int.toNat_of_nonneg s0] at this
              obtain ⟨A4, c4, z1, z2, z3, ⟨b4, hA4, z4⟩, hU2, hB5⟩ := us_pop hU
              subst hA4
              have hMp := mInv_pop hM
              have hcnt := hMp.cnt
              have hlim : d.n ≤ 3000 := HOK.out.lim
              have hpre : pre.length ≤ 3000 := by omega
              obtain ⟨q5, o5, A5, c5, e, hb5, hc5, hl5, hr5⟩ := at_ints HC.out s.toNat (by unfold Dfa.n at s1; omega)
              cases e
              replace hc5 := (HB4.out.cell (p := ⟨g, 0 + s.toNat, none⟩) hb5).trans hc5
              rw [Nat.zero_add] at hc5
              have hgp : g < w2.heap.size := Nat.lt_of_lt_of_le hb5 HBM.out.size
              have hmem := HBK.out.2 s.toNat (by omega)
              rw [Int.toNat_of_nonneg s0] at hmem
              obtain ⟨xs, hxs⟩ : ∃ xs, xs = bk.getD s.toNat [] := ⟨_, rfl⟩
              rw [← hxs] at hc5 hl5 hr5 hmem
              have hg1 := hg
              rw [List.length_append, List.length_singleton] at hg1
              have HG1 := Aside0.mk hg1
              have HXS := Aside0.mk hmem
              have HMX := Aside0.mk hMp
              have HU := Aside0.mk hU2
              have HLL := Aside0.mk hL
              have HSL := Aside0.mk hsl
              have HR5 := Aside0.mk hr5
              have hxl : xs.length ≤ 9223372036854775807 := hr5.2.1
              have HB6 := Aside0.mk (HB4.out.trans hB5)
              have HS1 := Aside0.mk (show s < d.n from s1)
              have s3 : s < (d.arcs.length : Int) := s1
              clear hg hg1 hmem hMp hU2 hL hsl hr5 hxs hM hU HQ hcnt hlim s2 s1 hB5
              go_wp2
              go_loopw [86] (fun i wr => ∃ j : Nat, j ≤ xs.length ∧ i = .int .i64 j ∧ Aside0 (∃ bs' ts', 2 * bs'.count false + ts'.length ≤ 2 * bs.count false + pre.length ∧ US wr wb.heap.size w2.heap.size (w2.heap.size + 1) (.slice A3 d.arcs.length c3) bs' ts' ∧ MInv d bs' ts' (fun t => False ∨ t = s) ∧ (∀ s : Nat, s < d.n → d.lab s ≠ -1 → bs'.getD s false = true) ∧ ∀ p ∈ xs.take j, bs'.getD p.toNat false = true) ∧ Aside0 (Below wb.heap.size wb wr)) (fun i _ => xs.length - (intOf i).toNat)
              case atStart => exact ⟨0, by omega, rfl, ⟨bs, pre, Nat.le_refl _, HU.out, HMX.out, HLL.out, fun p hp => by simp at hp⟩, HB6⟩
              case round =>
                obtain ⟨j, hj, rfl, HQ7, HB7⟩ := hrel
                by_cases hjl : j < xs.length
                · obtain ⟨q6, o6, e, hb6, hc6⟩ := at_num (Kd.C_below HR5.out HB7.out) j hjl
                  cases e
                  obtain ⟨bs', ts', hle, hU', hM', hL', hT'⟩ := HQ7.out
                  have hpm : xs.getD j 0 ∈ xs := by rw [List.getD_eq_getElem?_getD, List.getElem?_eq_getElem hjl]; exact List.getElem_mem hjl
                  have htk : xs.take (j + 1) = xs.take j ++ [xs.getD j 0] := by
                    rw [List.take_succ_eq_append_getElem hjl, List.getD_eq_getElem?_getD, List.getElem?_eq_getElem hjl]; rfl
                  obtain ⟨p, hp⟩ : ∃ p, p = xs.getD j 0 := ⟨_, rfl⟩
                  rw [← hp] at hc6 hpm htk
                  obtain ⟨s', hs1, hs2, hs3⟩ := (HXS.out p).1 hpm
                  subst hs2
                  have hlv := Live.pred HOK.out hs3 HSL.out
                  have hmk := mInv_mark hM' (s := (s' : Int)) (by omega) (by omega) hlv
                  have HMK := Aside0.mk (show 2 * (markB bs' (s' : Int)).count false + (markT bs' ts' (s' : Int)).length ≤ 2 * bs.count false + pre.length from Nat.le_trans hmk.2 hle)
                  have HM1 := Aside0.mk hmk.1
                  have HL1 := Aside0.mk (show ∀ s : Nat, s < d.n → d.lab s ≠ -1 → (markB bs' (s' : Int)).getD s false = true from fun s h1 h2 => mark_mono (hL' s h1 h2))
                  have HT1 := Aside0.mk (show ∀ p ∈ xs.take (j + 1), (markB bs' (s' : Int)).getD p.toNat false = true from fun p hp => by
                    rw [htk] at hp
                    rcases List.mem_append.1 hp with hp | hp
                    · exact mark_mono (hT' p hp)
                    · rw [List.mem_singleton.1 hp]
                      exact mark_self (s := (s' : Int)) (by rw [hM'.len]; exact hs1))
                  have HCN := Aside0.mk (show ts'.length ≤ 100000 from by have h1 := hM'.cnt; have h2 : d.n ≤ 3000 := HOK.out.lim; omega)
                  have HLN := Aside0.mk (show (s' : Int) < bs'.length from by rw [hM'.len]; omega)
                  have HU' := Aside0.mk hU'
                  clear hle hU' hM' hL' hT' hpm htk hp hs3 hlv hmk HQ7
                  go_wp2_with fail
                  refine (mark_calls (s' : Int) wb.heap.size w2.heap.size (w2.heap.size + 1) _ bs' ts' _ HU'.out (by omega) HLN.out HCN.out HB7.out.size).mono ?_
                  rintro e w3 ⟨rfl, hus, hb3⟩
                  have HUS3 := Aside0.mk hus
                  have HB8 := Aside0.mk (HB7.out.trans hb3)
                  clear hus hb3
                  go_wp2
                  go_roundw
                  case rel => exact ⟨j + 1, by omega, by go_num, ⟨_, _, HMK.out, HUS3.out, HM1.out, HL1.out, HT1.out⟩, HB8⟩
                  case measure => simp [intOf]; omega
                · obtain rfl : j = xs.length := by omega
                  obtain ⟨bs', ts', hle, hU', hM', hL', hT'⟩ := HQ7.out
                  rw [List.take_length] at hT'
                  have hdn := mInv_done hM' (fun p hp hpr => by
                    have := hT' (p : Int) ((HXS.out p).2 ⟨p, hp, rfl, hpr⟩)
                    simpa using this)
                  have HX := Aside0.mk (show ∃ bs1 ts1, 2 * bs1.count false + ts1.length = 2 * bs'.count false + ts'.length ∧ US wr wb.heap.size w2.heap.size (w2.heap.size + 1) (.slice A3 d.arcs.length c3) bs1 ts1 ∧ MInv d bs1 ts1 (fun _ => False) ∧ ∀ s : Nat, s < d.n → d.lab s ≠ -1 → bs1.getD s false = true from ⟨bs', ts', rfl, hU', hdn, hL'⟩)
                  have HLE := Aside0.mk hle
                  clear hle hU' hM' hL' hT' hdn HQ7
                  go_wp2
                  go_roundg (2 * bs'.count false + ts'.length)
                  case measure => have h1 := HG1.out; have h2 := HLE.out; omega
                  case rel => exact ⟨HX, HB7⟩
end Go.Proofs.YthohahcpdgebbaaDoor.Wk
