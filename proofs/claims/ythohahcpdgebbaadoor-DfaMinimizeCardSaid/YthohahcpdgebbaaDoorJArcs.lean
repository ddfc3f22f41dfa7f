/- Proved: what a part of the given program (its deterministic automata, and the functions that they call) computes, and laws on that, under the conditions that each theorem names. -/
import Derived.Test.YthohahcpdgebbaaDoorJSrt
namespace Go.Proofs.YthohahcpdgebbaaDoor.Wk
open Go.RowKit Go.Proofs.YthohahcpdgebbaaDoorW.PrintWords Go.Proofs.YthohahcpdgebbaaDoorW.PrintLast Go.Proofs.YthohahcpdgebbaaDoorW.PrintMore
open Go.Proofs.YthohahcpdgebbaaDoor.Th
set_option linter.unusedVariables false
set_option linter.unusedSimpArgs false
def kMv : Kd Mv := Kd.iso (Kd.pair (Kd.pair (Kd.int .i32) (Kd.int .i32)) (Kd.pair (Kd.int .i64) (Kd.int .i64))) (fun m : Mv => ((m.lo, m.hi), (m.tgt.which, m.tgt.state)))
theorem kMv_open {w : World} {m : Mv} {cs : List Value} (h : kMv.K w m cs) : cs = [.int .i32 m.lo, .int .i32 m.hi, .int .i64 m.tgt.which, .int .i64 m.tgt.state] := by
  obtain ⟨_, _, rfl, ⟨_, _, rfl, rfl, rfl⟩, ⟨_, _, rfl, rfl, rfl⟩⟩ := h
  rfl
theorem kMv_mkM (w : World) (base : Nat) (ok : Nat → Prop) (m : Mv) : kMv.M w base ok m [.int .i32 m.lo, .int .i32 m.hi, .int .i64 m.tgt.which, .int .i64 m.tgt.state] :=
  ⟨[.int .i32 m.lo, .int .i32 m.hi], [.int .i64 m.tgt.which, .int .i64 m.tgt.state], rfl, ⟨[.int .i32 m.lo], [.int .i32 m.hi], rfl, rfl, rfl⟩, ⟨[.int .i64 m.tgt.which], [.int .i64 m.tgt.state], rfl, rfl, rfl⟩⟩
theorem infoMv : (Tryd.prog.info? 109).map (fun i => (i.zero, i.size, i.bytes)) = some (some (.agg #[.int .i32 0, .int .i32 0, .int .i64 0, .int .i64 0]), 4, 24) := by kernel_rfl
theorem mv_E {q e : Nat} (hq : q ∈ e :: kMv.E) : q = e := by simpa [kMv, Kd.iso, Kd.pair, Kd.int, Kd.scalar] using hq
theorem at_mv {w : World} {A : Option Addr} {n : Nat} {xs : List Mv} (h : Kd.C kMv w A n xs) (i : Nat) (hi : i < n) :
    ∃ b o, A = some ⟨b, o, none⟩ ∧ b < w.heap.size ∧ w.cell? ⟨b, o + i * 4, none⟩ = some (.int .i32 (xs.getD i default).lo) ∧ w.cell? ⟨b, o + i * 4 + 1, none⟩ = some (.int .i32 (xs.getD i default).hi) ∧
      w.cell? ⟨b, o + i * 4 + 2, none⟩ = some (.int .i64 (xs.getD i default).tgt.which) ∧ w.cell? ⟨b, o + i * 4 + 3, none⟩ = some (.int .i64 (xs.getD i default).tgt.state) := by
  obtain ⟨b, o, e, hb, hc⟩ := C_lit h (by omega) (by decide) default
  obtain ⟨c, _, hK, hc⟩ := hc i hi
  obtain rfl := kMv_open hK
  exact ⟨b, o, e, hb, hc 0 _ rfl, hc 1 _ rfl, hc 2 _ rfl, hc 3 _ rfl⟩
def mvAt (p : Pr) (x : Arc) : Mv := ⟨x.lo, x.hi, ⟨p.which, x.to⟩⟩
def rowAt (l : List Nf) (p : Pr) : List Arc := (l.getD p.which.toNat default).arc p.state
theorem movesOf_eq (l : List Nf) (set : List Pr) : movesOf l set = set.flatMap fun p => (rowAt l p).map (mvAt p) := rfl
theorem movesOf_next (l : List Nf) {set : List Pr} {k : Nat} (hk : k < set.length) : movesOf l (set.take (k + 1)) = movesOf l (set.take k) ++ (rowAt l (set.getD k default)).map (mvAt (set.getD k default)) := by
  rw [take_next default hk, movesOf_eq, movesOf_eq, List.flatMap_append]
  simp
def edgesOf (ms : List Mv) : List Int := ms.flatMap fun m => [m.lo, nx m.hi]
theorem edgesOf_snoc (ms : List Mv) (m : Mv) : edgesOf (ms ++ [m]) = edgesOf ms ++ [m.lo, nx m.hi] := by simp [edgesOf]
theorem edgesOf_len (ms : List Mv) : (edgesOf ms).length = 2 * ms.length := by
  induction ms with
  | nil => rfl
  | cons m ms ih =>
    unfold edgesOf at ih ⊢
    rw [List.flatMap_cons, List.length_append, ih]
    simp
    omega
theorem mem_edgesOf {ms : List Mv} {x : Int} : x ∈ edgesOf ms ↔ ∃ m ∈ ms, x = m.lo ∨ x = nx m.hi := by
  unfold edgesOf
  rw [List.mem_flatMap]
  constructor
  · rintro ⟨m, hm, hx⟩
    exact ⟨m, hm, by simpa using hx⟩
  · rintro ⟨m, hm, hx⟩
    exact ⟨m, hm, by simpa using hx⟩
theorem below_drewN2 (w : World) (o : Obj) (n : Nat) : Below w.heap.size w ((w.alloc o).drewN n) := pw_below_drewN (below_alloc (Below.refl _ _) _) _
theorem Fr.grown {base : Nat} {w w1 w2 : World} {row : Option Nat} (hf : Fr base w w1) (hg : w1.grownBy w2 row) (hr : ∀ k, row = some k → w.heap.size ≤ k) (hb : base ≤ w.heap.size) : Fr base w w2 :=
  ⟨hf.below.grown hg (Nat.le_trans hb hf.below.size) (fun k hk => Nat.le_trans hb (hr k hk)), fun k cs t f hk h1 h2 => by
    rw [hg.block k (Nat.lt_of_lt_of_le (box_lt hk) hf.below.size) (fun e => by have := hr k e.symm; have := box_lt hk; omega), hf.keep k cs t f hk h1 h2]⟩
theorem three_cells {w : World} {b : Nat} {u v x : Value} {t : TypeId} (h : w.heap[b]? = some (.cells #[u, v, x] t (0, 0))) : w.cell? ⟨b, 0, none⟩ = some u ∧ w.cell? ⟨b, 1, none⟩ = some v ∧ w.cell? ⟨b, 2, none⟩ = some x := by
  refine ⟨?_, ?_, ?_⟩ <;> simp [World.cell?, h]
theorem toOf_next {ms : List Mv} {j : Nat} (hj : j < ms.length) (lo hi : Int) : toOf (ms.take (j + 1)) lo hi = toOf (ms.take j) lo hi ++ (if (ms.getD j default).lo ≤ lo ∧ hi ≤ (ms.getD j default).hi then [(ms.getD j default).tgt] else []) := by
  rw [take_next default hj]
  unfold toOf
  rw [List.filter_append, List.map_append]
  congr 1
  rw [List.filter_cons]
  by_cases h : (ms.getD j default).lo ≤ lo ∧ hi ≤ (ms.getD j default).hi
  · rw [if_pos h, if_pos (by simpa using h)]
    rfl
  · rw [if_neg h, if_neg (by simpa using h)]
    rfl
theorem toOf_len (ms : List Mv) (lo hi : Int) : (toOf ms lo hi).length ≤ ms.length := by
  unfold toOf
  rw [List.length_map]
  exact List.length_filter_le _ _
theorem closedL_len {l : List Nf} (hl : OkL l) (set : List Pr) : (closedL l set).length ≤ 3000 * l.length := closedK_len hl set (Nat.le_refl _)
theorem prB_of {l : List Nf} (hl : OkL l) (hln : l.length ≤ 16) {set : List Pr} (h : InP l set) : ∀ p ∈ set, PrB p := fun p hp => by
  obtain ⟨i, h1, h2, h3, h4⟩ := h p hp
  have := (hl.at h1).lim
  unfold PrB
  omega
structure ME (w : World) (B : Nat) (vm ve : Value) (ms : List Mv) : Prop where
  m : kMv.R 109 w B (fun _ => True) vm ms
  e : (Kd.int .i32).R 21 w B (fun _ => True) ve (edgesOf ms)
set_option maxHeartbeats 8000000 in
set_option maxRecDepth 100000 in
theorem arcs_calls (base bp mb : Nat) (l : List Nf) (hok : OkL l) (hln : l.length ≤ 16) (Al : Option Addr) (cl0 : Nat) (sets : List (List Pr)) (set : List Pr) (A1 : Option Addr) (c1 : Nat) (w : World) (hbs : BS w base bp mb (.slice Al l.length cl0) sets)
    (hL : ∀ w', Below base w w' → kNf.C w' Al l.length l) (hset : kPr.C w A1 set.length set) (hin : InP l set) (hmv : (movesOf l set).length ≤ 6) (hrow : ∀ p ∈ set, (rowAt l p).length ≤ 4294967296) (hn : sets.length ≤ 3000) (hnd : sets.Nodup) (htab : ∀ w', Below base w w' → Tab w') (hbase : base ≤ w.heap.size) :
    Calls Tryd.prog 31 #[.pointer (some ⟨bp, 0, none⟩), .slice A1 set.length c1] w fun e w' => ∃ v, e = .returned v ∧ ∃ es row sets', kArc.R 54 w' w.heap.size (fun _ => True) v row ∧ EdgeOf (movesOf l set) es ∧
      PRow l (movesOf l set) es sets (es.length - 1) (row, sets') ∧ BS w' base bp mb (.slice Al l.length cl0) sets' ∧ Fr base w w' := by
  obtain ⟨As, cs, x0, _, _, _, hbl, hbx, hsr⟩ := hbs.cells
  have hsl : set.length ≤ 9223372036854775807 := hset.2.1
  have HBS := Aside0.mk hbs
  have HL := Aside0.mk hL
  have HSET := Aside0.mk hset
  have HIN := Aside0.mk hin
  have HOK := Aside0.mk hok
  have HMV := Aside0.mk hmv
  have HROW := Aside0.mk hrow
  have HTAB := Aside0.mk htab
  have HND := Aside0.mk hnd
  clear hbs hL hset hin hok hmv hrow htab hnd hbx hsr
  go_enter Tryd.func31, Tryd.ntmps31
  go_wp2
  go_loopw [5, 6, 20] (fun vm ve i wr => ∃ k : Nat, k ≤ set.length ∧ i = .int .i64 k ∧ Aside0 (ME wr w.heap.size vm ve (movesOf l (set.take k))) ∧ Aside0 (Below w.heap.size w wr)) (fun _ _ i _ => set.length - (intOf i).toNat)
  case atStart => exact ⟨0, by omega, rfl, ⟨⟨Kd.R_nil _ _ _ _ _, Kd.R_nil _ _ _ _ _⟩⟩, ⟨Below.refl _ _⟩⟩
  case round =>
    obtain ⟨k, hk, rfl, HO, HB⟩ := hrel
    have hwb := HB.out.size
    by_cases hlt : k < set.length
    · have y0 := (HB.out.cell (p := ⟨bp, 0, none⟩) hbl).trans x0
      obtain ⟨b1, o1, e, hb1, hc0, hc1⟩ := at_pr (Kd.C_below HSET.out HB.out) k hlt
      cases e
      obtain ⟨i, hi, hw, hs0, hs1⟩ := HIN.out _ (getD_in default hlt)
      have hnx := movesOf_next l hlt
      have hrl := HROW.out _ (getD_in default hlt)
      have hml : (movesOf l (set.take (k + 1))).length ≤ (movesOf l set).length := by
        have e : movesOf l set = movesOf l (set.take (k + 1)) ++ movesOf l (set.drop (k + 1)) := by
          rw [movesOf_eq, movesOf_eq, movesOf_eq, ← List.flatMap_append, List.take_append_drop]
        rw [e, List.length_append]
        omega
      obtain ⟨p, hp⟩ : ∃ p, p = set.getD k default := ⟨_, rfl⟩
      rw [← hp] at hc0 hc1 hw hs0 hs1 hnx hrl
      obtain ⟨b2, o2, A2, c2, A3, c3, e, hb2, _, _, hd2, _, hrd⟩ := at_nf (HL.out w (Below.refl _ _)) i hi
      cases e
      have e0 : (p.which.toNat : Nat) = i := by omega
      have hra : rowAt l p = (l.getD i default).arcs.getD p.state.toNat [] := by unfold rowAt; rw [e0]; rfl
      have hoka := HOK.out.at hi
      have hst : p.state.toNat < (l.getD i default).arcs.length := by unfold Nf.n at hs1; omega
      obtain ⟨b3, o3, A4, c4, e, hb3, hd3, _, hC4⟩ := at_arcs hrd.arcs p.state.toNat hst
      cases e
      have hoka2 := hoka.arc_ok p.state
      have hra2 : (l.getD i default).arc p.state = rowAt l p := by rw [hra]; rfl
      rw [hra2] at hoka2
      rw [← hra] at hd3 hC4
      have HOKR := Aside0.mk hoka2
      replace hd2 := (HB.out.cell hb2).trans hd2
      replace hd3 := (HB.out.cell hb3).trans hd3
      have hb2' : b2 < wr.heap.size := Nat.lt_of_lt_of_le hb2 hwb
      have hb3' : b3 < wr.heap.size := Nat.lt_of_lt_of_le hb3 hwb
      obtain ⟨a, ha⟩ : ∃ a, a = l.getD i default := ⟨_, rfl⟩
      rw [← ha] at hd2 hst hs1
      obtain ⟨row, hrw⟩ : ∃ row, row = rowAt l p := ⟨_, rfl⟩
      rw [← hrw] at hd3 hC4 hnx hrl HOKR
      have HRW := Aside0.mk hC4
      have HNX := Aside0.mk hnx
      have HML := Aside0.mk hml
      have HW := Aside0.mk hw
      rw [hw] at hc0
      have hlt0 : bp < wr.heap.size := World.block_lt_of_cell? _ _ y0
      have ne0 := World.new_ne _ _ y0
      have ne1 := World.new_ne _ _ hd2
      have ne2 := World.new_ne _ _ hd3
      have hi0 : 0 ≤ (i : Int) := by omega
      have hi1 : (i : Int) < (l.length : Int) := by omega
      have hs2 : p.state < (a.arcs.length : Int) := by unfold Nf.n at hs1; exact hs1
      clear hp hw hnx hrd hra hra2 ha hrw hC4 hoka hoka2 hml e0 hs1
      go_wp2_with fail
      go_quiet (fail)
      go_wp2
      obtain ⟨wo, rfl⟩ : ∃ wo : World, wo = wr := ⟨_, rfl⟩
      obtain ⟨i0, hii⟩ : ∃ i0 : Int, i0 = (i : Int) := ⟨_, rfl⟩
      rw [← hii]
      have HII := Aside0.mk (hii.trans HW.out.symm)
      clear hii
      go_loopw [5, 6, 38] (fun vm ve i wr => ∃ j : Nat, j ≤ row.length ∧ i = .int .i64 j ∧ Aside0 (ME wr w.heap.size vm ve (movesOf l (set.take k) ++ (row.take j).map (mvAt p))) ∧ Aside0 (wr.heap[wo.heap.size]? = some (.cells #[.int .i64 i0, .int .i64 p.state] 58 (0, 0))) ∧ Aside0 (Below w.heap.size w wr)) (fun _ _ i _ => row.length - (intOf i).toNat)
      case atStart => exact ⟨0, by omega, rfl, ⟨⟨by simpa using Kd.R_below HO.out.m (below_drewN2 wo _ _), by simpa using Kd.R_below HO.out.e (below_drewN2 wo _ _)⟩⟩, ⟨heap_alloc_new wo _⟩, ⟨pw_below_drewN (below_alloc HB.out _) _⟩⟩
      case round =>
        obtain ⟨j, hj, rfl, HO2, HB2, HB3⟩ := hrel
        have hwz := box_lt HB2.out
        by_cases hjl : j < row.length
        · obtain ⟨b5, o5, e, hb5, hx0, hx1, hx2⟩ := at_arc (Kd.C_below HRW.out HB3.out) j hjl
          cases e
          have px0 := (two_cells HB2.out).1
          have px1 := (two_cells HB2.out).2
          rw [HII.out] at px0
          have htk := take_next (default : Arc) hjl
          have hxo := HOKR.out _ (getD_in default hjl)
          obtain ⟨x, hx⟩ : ∃ x, x = row.getD j default := ⟨_, rfl⟩
          rw [← hx] at hx0 hx1 hx2 htk hxo
          obtain ⟨ms, hms⟩ : ∃ ms, ms = movesOf l (set.take k) ++ (row.take j).map (mvAt p) := ⟨_, rfl⟩
          have hmn : movesOf l (set.take k) ++ (row.take (j + 1)).map (mvAt p) = ms ++ [mvAt p x] := by rw [htk, List.map_append, ← List.append_assoc, ← hms]; rfl
          have hmsl : ms.length + 1 ≤ 6 := by
            have h1 := HML.out
            have h2 := HMV.out
            rw [HNX.out, List.length_append, List.length_map] at h1
            rw [hms, List.length_append, List.length_map, List.length_take]
            omega
          rw [← hms] at HO2
          have HMN := Aside0.mk hmn
          have hel := edgesOf_len ms
          have hxhi : 0 ≤ x.hi ∧ x.hi ≤ 1114111 := by
            obtain ⟨_, h2, _⟩ := hxo
            unfold isC at h2
            omega
          obtain ⟨Am, cm, rfl⟩ := Kd.R_slice HO2.out.m
          obtain ⟨Ae, ce, rfl⟩ := Kd.R_slice HO2.out.e
          have hmm := HO2.out.m
          have hme := HO2.out.e
          have ltp : wo.heap.size < wr.heap.size := hwz
          have nep := World.new_ne _ _ px0
          have HMM := Aside0.mk hmm
          have HME := Aside0.mk hme
          obtain ⟨es, hes⟩ : ∃ es, es = edgesOf ms := ⟨_, rfl⟩
          rw [← hes] at HME hel ⊢
          have HES := Aside0.mk hes
          have hel2 : es.length ≤ 10 := by omega
          clear hx htk hxo hms hmn hmm hme hes HO2 hel
          go_wp2_with (at_builtin; refine Kd.R_append kMv (w0 := w) w.heap.size rfl _ _ 107 109 (.agg #[.int .i32 0, .int .i32 0, .int .i64 0, .int .i64 0]) 24 rfl Tryd.underlying107 infoMv rfl (by decide) (by decide) (.slice Am ms.length cm) ms (mvAt p x) [.int .i32 x.lo, .int .i32 x.hi, .int .i64 p.which, .int .i64 x.to] (fun _ => True) (fun _ => False) rfl (by first | (go_simp; done) | (go_simp; rfl)) (kMv_mkM _ _ _ _) (fun _ hk => hk.elim) (fun _ _ => trivial) ?aO ?aB ?aS ?aL ?_; (case aO => exact Kd.R_alloc HMM.out _); (case aB => exact HB3.out.alloc (by have := HB3.out.size; omega) _); (case aS => have := HB3.out.size; simp; omega); (case aL => omega); intro v1 w1 hR hB hg hat; obtain ⟨A7, c7, rfl⟩ := Kd.R_slice hR; have HR1 := Aside0.mk hR; have HB1 := Aside0.mk hB; have HG1 := Aside0.mk hg; have zP := (hg.block wo.heap.size (Nat.lt_of_lt_of_le hwz (by simp)) (Kd.R_ne (Kd.R_alloc HMM.out (.cells #[.int .i32 x.lo, .int .i32 x.hi, .int .i64 x.to] 54)) ((heap_alloc_old wr _ hwz).trans HB2.out) (by decide))).trans ((heap_alloc_old wr _ hwz).trans HB2.out); have zH := (hg.block wr.heap.size (by simp) (Kd.R_ne (Kd.R_alloc HMM.out (.cells #[.int .i32 x.lo, .int .i32 x.hi, .int .i64 x.to] 54)) (heap_alloc_new wr _) (by decide))).trans (heap_alloc_new wr _); clear hR hB hg hat)
          have hE1 := Kd.R_over' (Kd.R_alloc HME.out _) (Kd.R_typed (Kd.R_alloc HMM.out _)) (fun q hq => by rw [int_E hq]; decide) HG1.out
          have z0 : w1.drew.heap[wr.heap.size]? = some (.cells #[.int .i32 x.lo, .int .i32 x.hi, .int .i64 x.to] 54 (0, 0)) := zH
          have z1 := (three_cells z0).1
          have z2 := (three_cells z0).2.1
          have hE2 := Kd.R_drew hE1
          have hM2 := Kd.R_drew HR1.out
          have zP2 : w1.drew.heap[wo.heap.size]? = some (.cells #[.int .i64 i0, .int .i64 p.state] 58 (0, 0)) := zP
          have hb1 := HB1.out.drew
          have hb1s : w.heap.size ≤ w1.heap.size := hb1.size
          obtain ⟨q0, hq0, hqz0, hqz1, hqz2⟩ := info_parts infoRune
          have hoE := Kd.own_of_R (Kd.R_alloc hE2 (.cells #[.int .i32 x.lo, .int .i32 (nx x.hi)] 21))
          have hmx : es.length + 2 ≤ maxLen := by unfold maxLen; omega
          have hby : (es.length + 2) * 4 ≤ 140737488355328 := by omega
          have hnw := heap_alloc_new w1.drew (.cells #[.int .i32 x.lo, .int .i32 (nx x.hi)] 21)
          have hsz1 : w1.drew.heap.size = w1.heap.size := rfl
          rw [hsz1] at hnw
          have HMX := Aside0.mk hmx
          have HBY := Aside0.mk hby
          have HNW := Aside0.mk (World.news_of_block hnw)
          have HOE := Aside0.mk hoE
          have HE2 := Aside0.mk hE2
          have HM2 := Aside0.mk hM2
          have HZ0 := Aside0.mk z0
          have HZP := Aside0.mk zP2
          have HB1D := Aside0.mk hb1
          have hxh0 : -2147483648 ≤ x.hi := by omega
          have hxh1 : x.hi < 2147483647 := by omega
          clear hE1 hE2 hM2 zP zP2 hb1 hoE hmx hby hnw zH z0 hsz1
          go_wp2_with fail
          go_region_held3 (fun w' => w'.cell? ⟨wr.heap.size, 0, none⟩ = some (.int .i32 x.lo) ∧ w'.cell? ⟨wr.heap.size, 1, none⟩ = some (.int .i32 x.hi))
            (first | exact ⟨y1, y2⟩ | exact ⟨z1, z2⟩ | exact ⟨cell_later (below_alloc (Below.refl _ _) _) z1, cell_later (below_alloc (Below.refl _ _) _) z2⟩)
            (first
              | (refine step_append_lies _ (by rfl) _ _ _ (by rfl) w.heap.size 21 q0 _ 1 4 Tryd.underlying48 hq0 hqz0 hqz1 hqz2 rfl (by omega) (.slice Ae es.length ce) es.length _ (by rfl) HOE.out ⟨w1.heap.size, 0, none⟩ 2 2 [.int .i32 x.lo, .int .i32 (nx x.hi)] (by rfl) (by rfl) HNW.out (by simp [Value.oneCell']) (by omega) HMX.out HBY.out (by simp; omega) (w1.heap.size + 1) (by simp) ?_; intro gg cap2 w2 hown2 hgrow hat hlt; have zh2 := (hgrow.block wr.heap.size (Nat.lt_of_lt_of_le (box_lt HZ0.out) (by simp)) (Kd.R_ne (Kd.R_alloc HE2.out (.cells #[.int .i32 x.lo, .int .i32 (nx x.hi)] 21)) ((heap_alloc_old w1.drew _ (box_lt HZ0.out)).trans HZ0.out) (by decide))).trans ((heap_alloc_old w1.drew _ (box_lt HZ0.out)).trans HZ0.out); have y1 := (three_cells zh2).1; have y2 := (three_cells zh2).2.1; have HGW := Aside0.mk hgrow; have HOW2 := Aside0.mk hown2; have HAT := Aside0.mk hat; clear hgrow hown2 hat)
              | (go_at_call 66; refine (after_calls _ hxh0 hxh1 _).mono ?_; rintro e w9 ⟨rfl, rfl⟩))
          all_goals
            have hm3 := Kd.R_over' (Kd.R_alloc HM2.out (.cells #[.int .i32 x.lo, .int .i32 (nx x.hi)] 21)) (Kd.R_typed (Kd.R_alloc HE2.out (.cells #[.int .i32 x.lo, .int .i32 (nx x.hi)] 21))) (fun q hq => by rw [mv_E hq]; decide) HGW.out
            have he3 : (Kd.int .i32).R 21 w2 w.heap.size (fun _ => True) (.slice (some ⟨gg, 0, none⟩) (es.length + 2) cap2) (es ++ [x.lo, nx x.hi]) := Kd.R_of_own (enc := Value.int .i32) (xs := es ++ [x.lo, nx x.hi]) (by simpa [encs] using HOW2.out) (fun _ _ => trivial)
            have hb3 := (HB1D.out.alloc hb1s (.cells #[.int .i32 x.lo, .int .i32 (nx x.hi)] 21)).grown HGW.out (by simp; omega) (Kd.R_base HE2.out)
            have hp3 := (HGW.out.block wo.heap.size (Nat.lt_of_lt_of_le (box_lt HZP.out) (by simp)) (Kd.R_ne (Kd.R_alloc HE2.out (.cells #[.int .i32 x.lo, .int .i32 (nx x.hi)] 21)) ((heap_alloc_old w1.drew _ (box_lt HZP.out)).trans HZP.out) (by decide))).trans ((heap_alloc_old w1.drew _ (box_lt HZP.out)).trans HZP.out)
            rw [show (ms ++ [mvAt p x]).length = ms.length + 1 by simp] at hm3
            have HM3 := Aside0.mk hm3
            have HE3 := Aside0.mk he3
            have HB3' := Aside0.mk hb3
            have HP3 := Aside0.mk hp3
            clear hm3 he3 hb3 hp3 y1 y2
            go_wp2
            go_roundw
            case rel => exact ⟨j + 1, by omega, by go_num, ⟨by rw [HMN.out]; exact ⟨HM3.out, by rw [edgesOf_snoc, ← HES.out]; exact HE3.out⟩⟩, HP3, HB3'⟩
            case measure => simp [intOf]; omega
        · obtain rfl : j = row.length := by omega
          rw [List.take_length] at HO2
          go_wp2
          go_roundw
          case rel => exact ⟨k + 1, by omega, by go_num, ⟨by rw [HNX.out]; exact HO2.out⟩, HB3⟩
          case measure => simp [intOf]; omega
    · obtain rfl : k = set.length := by omega
      rw [List.take_length] at HO
      obtain ⟨ho, hinp⟩ := movesOf_ok HOK.out HIN.out
      obtain ⟨ms, hms⟩ : ∃ ms, ms = movesOf l set := ⟨_, rfl⟩
      have hmv6 : ms.length ≤ 6 := by rw [hms]; exact HMV.out
      rw [← hms] at HO ho hinp
      have HMS := Aside0.mk hms
      have HOM := Aside0.mk ho
      have HINP := Aside0.mk hinp
      obtain ⟨es0, hes⟩ : ∃ es0, es0 = edgesOf ms := ⟨_, rfl⟩
      have hel : es0.length ≤ 12 := by rw [hes, edgesOf_len]; omega
      have hm0 := HO.out.m
      have he0 := HO.out.e
      rw [← hes] at he0
      obtain ⟨Am, cm, rfl⟩ := Kd.R_slice hm0
      obtain ⟨Ae, ce, rfl⟩ := Kd.R_slice he0
      have HES := Aside0.mk hes
      have HM0 := Aside0.mk hm0
      have HE0 := Aside0.mk he0
      clear hms ho hinp hes hm0 he0 HO
      go_wp2_with fail
      refine (sort32_calls hel HE0.out).mono ?_
      rintro e w1 ⟨rfl, es1, hperm, hsort, hR1, hg1⟩
      have hl1 : es1.length = es0.length := hperm.length_eq
      have hcp := compact32_calls hsort hR1
      rw [hl1] at hcp
      have hm1 := Kd.R_over' HM0.out (Kd.R_typed HE0.out) (fun q hq => by rw [mv_E hq]; decide) hg1
      have hb1 := HB.out.grown hg1 hwb (Kd.R_base HE0.out)
      have hty1 := Kd.R_typed hR1
      rw [hl1] at hty1
      have hb1s : w.heap.size ≤ w1.heap.size := hb1.size
      have hrb1 := Kd.R_base hR1
      rw [hl1] at hrb1
      have HPERM := Aside0.mk hperm
      have HM1 := Aside0.mk hm1
      have HB1 := Aside0.mk hb1
      have HTY1 := Aside0.mk hty1
      have HCP := Aside0.mk hcp
      have HRB1 := Aside0.mk hrb1
      clear hR1 hg1 hcp hm1 hb1 hl1 hty1 hperm hsort hrb1
      go_wp2_with fail
      refine HCP.out.mono ?_
      rintro e w2 ⟨es, rfl, hle, hasc, hmem, hR2, hg2⟩
      have hm2 := Kd.R_over' HM1.out HTY1.out (fun q hq => by rw [mv_E hq]; decide) hg2
      have hb2 := HB1.out.grown hg2 hb1s HRB1.out
      have hE : EdgeOf ms es := ⟨hasc, fun x => by rw [hmem, HPERM.out.mem_iff, HES.out, mem_edgesOf]⟩
      have hesl : es.length ≤ 12 := by omega
      have hb2s : w.heap.size ≤ w2.heap.size := hb2.size
      have HBS2 := Aside0.mk (HBS.out.later hb2)
      have HFR2 := Aside0.mk (Fr.of hbase hb2)
      have HM2 := Aside0.mk hm2
      have HE2 := Aside0.mk hR2
      have HEO := Aside0.mk hE
      have HPR0 := Aside0.mk (pRow_start l ms es HND.out)
      clear hm2 hb2 hE hR2 hg2 hasc hmem hle HM1 HB1 HTY1 HCP HRB1 HM0 HE0
      go_wp2
      go_loopw [11, 12] (fun v iv wr => ∃ i : Nat, iv = .int .i64 i ∧ i ≤ es.length - 1 ∧ Aside0 (∃ row sets', kArc.R 54 wr w.heap.size (fun _ => True) v row ∧ PRow l ms es sets i (row, sets') ∧ sets'.length ≤ sets.length + i ∧ BS wr base bp mb (.slice Al l.length cl0) sets') ∧
        Aside0 (Fr base w wr) ∧ Aside0 (kMv.R 109 wr w.heap.size (fun _ => True) (.slice Am ms.length cm) ms) ∧ Aside0 ((Kd.int .i32).R 21 wr w.heap.size (fun _ => True) (.slice Ae es.length ce) es)) (fun _ i _ => es.length - (intOf i).toNat)
      case atStart => exact ⟨0, rfl, by omega, ⟨[], sets, Kd.R_nil _ _ _ _ _, HPR0.out, by omega, HBS2.out⟩, HFR2, HM2, HE2⟩
      case round =>
        obtain ⟨i, rfl, hin, HQ, HF, HM, HE⟩ := hrel
        by_cases hlt : i + 1 < es.length
        · obtain ⟨ge, ce2, e, hge, _, _⟩ := Kd.R_form HE.out (by omega)
          cases e
          obtain ⟨cE0, _⟩ := Kd.R_celln 0 HE.out (i : Int) (by omega) (by omega)
          obtain ⟨cE1, _⟩ := Kd.R_celln 0 HE.out ((i + 1 : Nat) : Int) (by omega) (by omega)
          rw [Int.toNat_natCast] at cE0 cE1
          have r0 : rdOf 0 es (i : Int) = es.getD i 0 := by unfold rdOf; rw [Int.toNat_natCast]
          have r1 : rdOf 0 es ((i + 1 : Nat) : Int) = es.getD (i + 1) 0 := by unfold rdOf; rw [Int.toNat_natCast]
          rw [r0] at cE0
          rw [r1] at cE1
          have he0 : es[i]? = some (es.getD i 0) := by rw [List.getD_eq_getElem?_getD, List.getElem?_eq_getElem (by omega)]; rfl
          have he1 : es[i + 1]? = some (es.getD (i + 1) 0) := by rw [List.getD_eq_getElem?_getD, List.getElem?_eq_getElem hlt]; rfl
          obtain ⟨e, hee⟩ : ∃ e, e = es.getD i 0 := ⟨_, rfl⟩
          obtain ⟨e', hee'⟩ : ∃ e', e' = es.getD (i + 1) 0 := ⟨_, rfl⟩
          rw [← hee] at cE0 he0
          rw [← hee'] at cE1 he1
          have hEi := HEO.out.isE HOM.out (List.mem_of_getElem? he1)
          have hb0 : -2147483648 < e' := by unfold isE isC at hEi; omega
          have hb1 : e' ≤ 2147483647 := by unfold isE isC at hEi; omega
          have HE0' := Aside0.mk he0
          have HE1' := Aside0.mk he1
          obtain ⟨row, sets', hRow, hPR, hsl', hBS⟩ := HQ.out
          have HRow := Aside0.mk hRow
          have HPR := Aside0.mk hPR
          have HSL := Aside0.mk hsl'
          have HBS3 := Aside0.mk hBS
          have HMC := Aside0.mk (Kd.R_reads' HM.out).2.2
          have hi1 : (i : Int) < (es.length : Int) := by omega
          have hi2 : (i : Int) + 1 < (es.length : Int) := by omega
          have hi3 : 0 ≤ (i : Int) + 1 := by omega
          clear r0 r1 hee hee' he0 he1 hEi hRow hPR hsl' hBS HQ
          go_wp2_with fail
          go_quiet ((go_at_call 69; exact Calls.quiet_of_same (before_calls _ hb0 hb1 _)))
          go_wp2
          obtain ⟨wo, rfl⟩ : ∃ wo : World, wo = wr := ⟨_, rfl⟩
          go_loopw [15, 88] (fun v jv wr => ∃ j : Nat, jv = .int .i64 j ∧ j ≤ ms.length ∧ Aside0 (kPr.R 58 wr wo.heap.size (fun _ => True) v (toOf (ms.take j) e (pv e'))) ∧ Aside0 (Below wo.heap.size wo wr)) (fun _ jv _ => ms.length - (intOf jv).toNat)
          case atStart => exact ⟨0, rfl, by omega, ⟨Kd.R_nil _ _ _ _ _⟩, ⟨pw_below_drewN (Below.refl _ _) _⟩⟩
          case round =>
            obtain ⟨j, rfl, hjn, HT, HB4⟩ := hrel
            by_cases hjl : j < ms.length
            · obtain ⟨b6, o6, eq6, hb6, hm0, hm1, hm2, hm3⟩ := at_mv (Kd.C_below HMC.out HB4.out) j hjl
              cases eq6
              have hnx := toOf_next hjl e (pv e')
              have htl := toOf_len (ms.take j) e (pv e')
              rw [List.length_take] at htl
              obtain ⟨m, hm⟩ : ∃ m, m = ms.getD j default := ⟨_, rfl⟩
              rw [← hm] at hm0 hm1 hm2 hm3 hnx
              obtain ⟨T, hT⟩ : ∃ T, T = toOf (ms.take j) e (pv e') := ⟨_, rfl⟩
              rw [← hT] at HT hnx htl
              have htl2 : T.length ≤ 6 := by omega
              obtain ⟨AT, cT, rfl⟩ := Kd.R_slice HT.out
              have HNX := Aside0.mk hnx
              have hjl2 : (j : Int) < (ms.length : Int) := by omega
              clear hm hT hnx htl
              by_cases h1 : m.lo ≤ e
              · have t1 : decide (m.lo ≤ e) = true := decide_eq_true h1
                by_cases h2 : pv e' ≤ m.hi
                · have t2 : decide (pv e' ≤ m.hi) = true := decide_eq_true h2
                  have HN2 := Aside0.mk (HNX.out.trans (by rw [if_pos ⟨h1, h2⟩]))
                  clear h1 h2 HNX
                  go_wp2_with (at_builtin; refine Kd.R_append kPr (w0 := wo) wo.heap.size rfl _ _ 55 58 (.agg #[.int .i64 0, .int .i64 0]) 16 rfl Tryd.underlying55 infoPr rfl (by decide) (by decide) (.slice AT T.length cT) T m.tgt [.int .i64 m.tgt.which, .int .i64 m.tgt.state] (fun _ => True) (fun _ => False) rfl (by first | (go_simp; done) | (go_simp; rfl)) (kPr_mkM _ _ _ _) (fun _ hk => hk.elim) (fun _ _ => trivial) ?aO ?aB ?aS ?aL ?_; (case aO => exact Kd.R_alloc HT.out _); (case aB => exact below_alloc HB4.out _); (case aS => have := HB4.out.size; simp; omega); (case aL => omega); intro v1 w1 hR hB hg hat; have HRN := Aside0.mk hR; have HBN := Aside0.mk hB; clear hR hB hg hat)
                  go_roundw
                  case rel => exact ⟨j + 1, by go_num, by omega, ⟨by rw [HN2.out]; exact HRN.out⟩, HBN⟩
                  case measure => simp [intOf]; omega
                · have t2 : decide (pv e' ≤ m.hi) = false := decide_eq_false h2
                  have HN2 := Aside0.mk (HNX.out.trans (by rw [if_neg (fun hh => h2 hh.2), List.append_nil]))
                  clear h1 h2 HNX
                  go_wp2
                  go_roundw
                  case rel => exact ⟨j + 1, by go_num, by omega, ⟨by rw [HN2.out]; exact Kd.R_alloc HT.out _⟩, ⟨below_alloc HB4.out _⟩⟩
                  case measure => simp [intOf]; omega
              · have t1 : decide (m.lo ≤ e) = false := decide_eq_false h1
                have HN2 := Aside0.mk (HNX.out.trans (by rw [if_neg (fun hh => h1 hh.1), List.append_nil]))
                clear h1 HNX
                go_wp2
                go_roundw
                case rel => exact ⟨j + 1, by go_num, by omega, ⟨by rw [HN2.out]; exact Kd.R_alloc HT.out _⟩, ⟨below_alloc HB4.out _⟩⟩
                case measure => simp [intOf]; omega
            · obtain rfl : j = ms.length := by omega
              rw [List.take_length] at HT
              have hTn := toOf_len ms e (pv e')
              obtain ⟨T, hT⟩ : ∃ T, T = toOf ms e (pv e') := ⟨_, rfl⟩
              rw [← hT] at HT hTn
              have HTE := Aside0.mk hT
              obtain ⟨AT, cT, rfl⟩ := Kd.R_slice HT.out
              have hb4 := HB4.out
              have HF4 := Aside0.mk (HF.out.trans (Fr.of (Nat.le_trans hbase (Nat.le_trans (Nat.le_of_lt (Nat.lt_of_le_of_lt hge (Kd.R_lt HE.out ge (by simp [Value.ownBlock])))) (Nat.le_refl _))) hb4))
              have HM4 := Aside0.mk (Kd.R_below HM.out hb4)
              have HE4 := Aside0.mk (Kd.R_below HE.out hb4)
              have HRow4 := Aside0.mk (Kd.R_below HRow.out hb4)
              have HBS4 := Aside0.mk (HBS3.out.later hb4)
              have hwo : w.heap.size ≤ wo.heap.size := Nat.le_of_lt (Nat.lt_of_le_of_lt hge (Kd.R_lt HE.out ge (by simp [Value.ownBlock])))
              have hwr4 := hb4.size
              clear hT hb4 cE0 cE1
              by_cases hT0 : T = []
              · subst hT0
                have HS := Aside0.mk (pRow_step HPR.out HEO.out HOM.out HE0'.out HE1'.out)
                have HSn := Aside0.mk (show pstep l ms e (pv e') (row, sets') = (row, sets') from pstep_nil HTE.out.symm)
                clear hTn
                go_wp2
                go_roundw
                case rel => exact ⟨i + 1, by go_num, by omega, ⟨row, sets', HRow4.out, by have := HS.out; rwa [HSn.out] at this, by have := HSL.out; omega, HBS4.out⟩, HF4, HM4, HE4⟩
                case measure => simp [intOf]; omega
              · have hTp : 0 < T.length := List.length_pos_iff.2 hT0
                have HTne := Aside0.mk (show toOf ms e (pv e') ≠ [] from by rw [← HTE.out]; exact hT0)
                have hinT := inP_toOf HINP.out e (pv e')
                rw [← HTE.out] at hinT
                have HINT := Aside0.mk hinT
                have hbx := HBS4.out.cells
                obtain ⟨_, _, q0, _, _, _, _, _, _⟩ := hbx
                clear hT0 hinT
                go_wp2_with fail
                refine (closed_calls l HOK.out hln Al cl0 bp AT cT T T.length rfl (by omega) _ q0 (HL.out _ HF4.out.below) (Kd.R_reads' HT.out).2.2 HINT.out).mono ?_
                rintro e3 w3 ⟨v3, rfl, hR3, hb3⟩
                clear q0
                have hcl := closedL_len HOK.out T
                have hcn : (closedL l T).length ≤ 48000 := by omega
                have hpb := prB_of HOK.out hln (inP_closedL l T)
                have hcd : closedL l T = closedL l (toOf ms e (pv e')) := by rw [← HTE.out]
                obtain ⟨C, hC⟩ : ∃ C, C = closedL l T := ⟨_, rfl⟩
                rw [← hC] at hR3 hcl hcn hpb hcd
                have HCD := Aside0.mk hcd
                have HPB := Aside0.mk hpb
                obtain ⟨A3, c3, rfl⟩ := Kd.R_slice hR3
                have hwb : base ≤ wr.heap.size := by omega
                have HR3 := Aside0.mk (Kd.R_lower hR3 hwb)
                have HF5 := Aside0.mk (HF4.out.trans (Fr.of hwb hb3))
                have HM5 := Aside0.mk (Kd.R_below HM4.out hb3)
                have HE5 := Aside0.mk (Kd.R_below HE4.out hb3)
                have HRow5 := Aside0.mk (Kd.R_below HRow4.out hb3)
                have HBS5 := Aside0.mk (HBS4.out.later hb3)
                have hsl5 : sets'.length ≤ 10000 := by have := HSL.out; omega
                have hw3 : base ≤ w3.heap.size := Nat.le_trans hwb hb3.size
                have HRL := Aside0.mk (HPR.out.len)
                clear hC hR3 hb3 hcl hpb hcd HRow4 HBS4 HM4 HE4 HF4 HT
                go_wp2_with fail
                refine (number_calls base bp mb _ sets' C A3 c3 w3 HBS5.out HR3.out (by omega) HPB.out hsl5 (HTAB.out _ HF5.out.below) hw3).mono ?_
                rintro e4 w4 ⟨i4, rfl, hcase, hf4⟩
                have HF6 := Aside0.mk (HF5.out.trans hf4)
                have HM6 := Aside0.mk (hf4.row HM5.out (fun q hq => by rw [mv_E hq]; decide))
                have HE6 := Aside0.mk (hf4.row HE5.out (fun q hq => by rw [int_E hq]; decide))
                have HRow6 := Aside0.mk (hf4.row HRow5.out (fun q hq => by rw [arc_E hq]; decide))
                have HCASE := Aside0.mk (show ∃ sets2, pstep l ms e (pv e') (row, sets') = (row ++ [⟨e, pv e', (i4 : Int)⟩], sets2) ∧ BS w4 base bp mb (.slice Al l.length cl0) sets2 ∧ sets2.length ≤ sets'.length + 1 from by
                  rcases hcase with ⟨h1, h2⟩ | ⟨h1, h2, h3⟩
                  · rw [HCD.out] at h1
                    exact ⟨sets', pstep_hit HTne.out h1, h2, by omega⟩
                  · rw [HCD.out] at h1 h3
                    exact ⟨_, by rw [pstep_miss HTne.out h1, h2], h3, by simp⟩)
                have HS := Aside0.mk (pRow_step HPR.out HEO.out HOM.out HE0'.out HE1'.out)
                obtain ⟨AR, cR, rfl⟩ := Kd.R_slice HRow6.out
                have hrl : row.length ≤ 100 := by have h : row.length ≤ i := HRL.out; omega
                have hw4 : w.heap.size ≤ w4.heap.size := by
                  have h1 := HF5.out.below.size
                  have h2 := hf4.below.size
                  omega
                clear hcase hf4 HM5 HE5 HRow5 HBS5 HF5
                go_wp2_with (at_builtin; refine Kd.R_append kArc (w0 := w4) w.heap.size rfl _ _ 50 54 (.agg #[.int .i32 0, .int .i32 0, .int .i64 0]) 16 rfl Tryd.underlying50 infoArc rfl (by decide) (by decide) (.slice AR row.length cR) row ⟨e, pv e', (i4 : Int)⟩ [.int .i32 e, .int .i32 (pv e'), .int .i64 i4] (fun _ => True) (fun _ => False) rfl (by first | (go_simp; done) | (go_simp; rfl)) (kArc_mkM _ _ _ _) (fun _ hk => hk.elim) (fun _ _ => trivial) ?aO ?aB ?aS ?aL ?_; (case aO => exact HRow6.out); (case aB => exact Below.refl _ _); (case aS => omega); (case aL => omega); intro v1 w5 hR hB hg hat; have HRN := Aside0.mk hR; have HGN := Aside0.mk hg; clear hR hB hg hat)
                go_roundw
                case rel =>
                  obtain ⟨sets2, h1, h2, h3⟩ := HCASE.out
                  have hty := Kd.R_typed HRow6.out
                  have hpr := HS.out
                  rw [h1] at hpr
                  exact ⟨i + 1, by go_num, by omega, ⟨_, sets2, HRN.out, hpr, by have := HSL.out; omega, h2.other hty (by decide) (by decide) (by decide) HGN.out⟩, ⟨HF6.out.grown HGN.out (Kd.R_base HRow6.out) hbase⟩,
                    ⟨Kd.R_over' HM6.out hty (fun q hq => by rw [mv_E hq]; decide) HGN.out⟩, ⟨Kd.R_over' HE6.out hty (fun q hq => by rw [int_E hq]; decide) HGN.out⟩⟩
                case measure => simp [intOf]; omega
        · have hie : i = es.length - 1 := by omega
          obtain ⟨row, sets', hRow, hPR, hsl', hBS⟩ := HQ.out
          rw [hie] at hPR
          have HRES := Aside0.mk (show EdgeOf (movesOf l set) es ∧ PRow l (movesOf l set) es sets (es.length - 1) (row, sets') from by rw [← HMS.out]; exact ⟨HEO.out, hPR⟩)
          have HRow := Aside0.mk hRow
          have HBS9 := Aside0.mk hBS
          have hlt2 : ¬ ((i : Int) + 1 < (es.length : Int)) := by omega
          clear hRow hPR hsl' hBS HQ hie
          go_wp2
          go_ret
          exact ⟨_, rfl, es, row, HRow.out, HRES.out.1, sets', HRES.out.2, HBS9.out, HF.out⟩
end Go.Proofs.YthohahcpdgebbaaDoor.Wk
