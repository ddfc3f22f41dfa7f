/- Proved: what a part of the given program (its deterministic automata, and the functions that they call) computes, and laws on that, under the conditions that each theorem names. -/
import Derived.Test.YthohahcpdgebbaaDoorJA
import Derived.Test.YthohahcpdgebbaaDoorJShelf
import Derived.Shelf.Strings.Builder1
import Derived.Lib.AppendIntMem
import Derived.Lib.Walk
import Derived.Lib.Strings
import Derived.Lib.Slices
import Derived.Laws.Externs
import Derived.Laws.IdiomCopy
namespace Go.Proofs.YthohahcpdgebbaaDoor.Wk
open Go.RowKit
open Go.Proofs.YthohahcpdgebbaaDoor.Th
set_option linter.unusedVariables false
set_option linter.unusedSimpArgs false
theorem sizeBuilder : (Tryd.prog.info? 100).map (·.size) = some 2 := by kernel_rfl
theorem liesBuilder : liesAt Tryd.prog Tryd.prog.depth 100 (2 / Tryd.prog.cellsOf 100) 0 100 1 = true := by kernel_rfl
theorem infoByte : (Tryd.prog.info? 5).map (fun i => (i.zero, i.size, i.bytes)) = some (some (.int .u8 0), 1, 1) := by kernel_rfl
set_option maxHeartbeats 1000000 in
set_option maxRecDepth 100000 in
theorem copyCheck_used (b : Nat) (w : World) (h0 : w.cell? ⟨b, 0, none⟩ = some (.pointer (some ⟨b, 0, none⟩))) :
    Calls Tryd.prog 87 #[.pointer (some ⟨b, 0, none⟩)] w fun e w' => e = .returned (.tuple #[]) ∧ w' = w := by
  obtain ⟨j, hj, _⟩ := Option.map_eq_some_iff.1 sizeBuilder
  go_enter Tryd.func87, Tryd.ntmps87
  go_wp2
  rw [Lib.run_neq_ptr_same w _ Tryd.underlying97 hj]
  go_wp2
  go_end0
  exact ⟨rfl, rfl⟩
set_option maxHeartbeats 1000000 in
set_option maxRecDepth 100000 in
theorem copyCheck_fresh (b : Nat) (w : World) (h0 : w.cell? ⟨b, 0, none⟩ = some (.pointer none)) (hsh : w.shape? b = some (100, 2)) (hfz : w.frozen? ⟨b, 0, none⟩ = false) :
    Calls Tryd.prog 87 #[.pointer (some ⟨b, 0, none⟩)] w fun e w' => e = .returned (.tuple #[]) ∧ w' = w.setCell ⟨b, 0, none⟩ (.pointer (some ⟨b, 0, none⟩)) := by
  obtain ⟨j, hj, hjs⟩ := Option.map_eq_some_iff.1 sizeBuilder
  go_enter Tryd.func87, Tryd.ntmps87
  go_wp2
  rw [Lib.run_to_unsafe w ⟨b, 0, none⟩ Tryd.underlying97 Tryd.underlying141 hj (by rw [hjs]; decide) hsh (Nat.zero_lt_succ 1)]
  simp only [Result.andThen]
  rw [Oper.upon_value]
  go_wp2
  rw [run_callFunc_extern Tryd.func94 (by kernel_rfl) (by kernel_rfl) (by kernel_rfl) (e := Extern.AbiNoEscape.same) (by kernel_rfl)]
  rw [Lib.run_noEscape]
  simp only [Result.andThen]
  rw [Oper.upon_value]
  go_wp2
  rw [Lib.run_from_unsafe w ⟨b, 0, none⟩ Tryd.underlying141 Tryd.underlying97 hj hsh liesBuilder]
  simp only [Result.andThen]
  rw [Oper.upon_value]
  go_wp2
  go_end0
  exact ⟨rfl, rfl⟩
theorem copyCheck_calls (B b : Nat) (bs : List Value) (w : World) (h : Lib.IsBuilder 100 5 B b bs w) :
    Calls Tryd.prog 87 #[.pointer (some ⟨b, 0, none⟩)] w fun e w' => e = .returned (.tuple #[]) ∧ (Lib.BuilderAt 100 5 B b (.pointer (some ⟨b, 0, none⟩)) bs w' ∧ Below B w w') := by
  rcases h with h | h
  · refine (copyCheck_fresh b w h.cell0 h.shape h.frozen0).mono ?_
    rintro e w' ⟨rfl, rfl⟩
    exact ⟨rfl, h.used _, (Below.refl B w).setCell (p := ⟨b, 0, none⟩) h.1 _⟩
  · refine (copyCheck_used b w h.cell0).mono ?_
    rintro e w' ⟨rfl, rfl⟩
    exact ⟨rfl, h, Below.refl B _⟩
theorem enters_copyCheck : ∀ args w, (callFunc 87 args).run Tryd.prog w = .ok (.enter 87 args) w := enters_of Tryd.func87 (by kernel_rfl) rfl
set_option maxHeartbeats 2000000 in
set_option maxRecDepth 100000 in
theorem writeByte_calls (B b : Nat) (bs : List Value) (c : Int) (w : World) (h : Lib.IsBuilder 100 5 B b bs w) (hlen : bs.length + 1 ≤ 140737488355328) (hBw : B ≤ w.heap.size) :
    Calls Tryd.prog 93 #[.pointer (some ⟨b, 0, none⟩), .int .u8 c] w fun e w' => e = .returned .nilIface ∧ (Lib.BuilderAt 100 5 B b (.pointer (some ⟨b, 0, none⟩)) (bs ++ [.int .u8 c]) w' ∧ Below B w w') := by
  obtain ⟨i0, hi, hz0, hz1, hz2⟩ := info_parts infoByte
  have e240 := enters_copyCheck
  go_enter Tryd.func93, Tryd.ntmps93
  go_wp2_with (go_at_fn 87; refine (copyCheck_calls B b bs _ h).mono ?_)
  rintro e w1 ⟨rfl, h1, hb1⟩
  obtain ⟨hB, v, hbk, hown, hne⟩ := h1
  have c0 : w1.cell? ⟨b, 0, none⟩ = some (.pointer (some ⟨b, 0, none⟩)) := by rw [Lib.cell_of_heap hbk]; rfl
  have c1 : w1.cell? ⟨b, 1, none⟩ = some v := by rw [Lib.cell_of_heap hbk]; rfl
  go_wp2_with (at_builtin; refine wpList_append_own _ rfl _ _ 98 rfl B 5 i0 (.int .u8 0) 1 1 Tryd.underlying98 hi hz0 hz1 hz2 rfl (by decide) _ _ _ rfl (hown.alloc _) ⟨w1.heap.size, 0, none⟩ 1 1 [.int .u8 c] rfl rfl ?c1 ?c2 ?c3 ?c4 ?c5 ?_)
  case c1 =>
    intro j u hj
    match j, hj with
    | 0, hj => simp at hj; subst hj; simp [Addr.add]
  case c2 => intro u hu; simp at hu; subst hu; rfl
  case c3 => unfold maxLen; omega
  case c4 => omega
  case c5 => have := hb1.size; simp; omega
  intro v' w2 hown' hgrow _
  have hlt : b < w1.heap.size := by
    rcases Nat.lt_or_ge b w1.heap.size with h' | h'
    · exact h'
    · simp [Array.getElem?_eq_none h'] at hbk
  have hb2 : w2.heap[b]? = some (.cells #[.pointer (some ⟨b, 0, none⟩), v] 100 (0, 0)) := by
    rw [hgrow.block b (by simp; omega) (fun e => hne e.symm), Lib.alloc_old w1 _ b hlt]
    exact hbk
  have d0 : w2.cell? ⟨b, 0, none⟩ = some (.pointer (some ⟨b, 0, none⟩)) := by rw [Lib.cell_of_heap hb2]; rfl
  have d1 : w2.cell? ⟨b, 1, none⟩ = some v := by rw [Lib.cell_of_heap hb2]; rfl
  have f1 : w2.frozen? ⟨b, 1, none⟩ = false := Lib.frozen_of_heap hb2 1
  obtain ⟨g, cap, rfl⟩ : ∃ g cap, v' = .slice (some ⟨g, 0, none⟩) (bs.length + 1) cap := by
    rcases hown'.2 with ⟨_, h0⟩ | ⟨g, cap, cur, hv, _⟩
    · omega
    · exact ⟨g, cap, hv⟩
  go_wp2
  go_ret
  refine ⟨rfl, ?_, ?_⟩
  · exact Lib.BuilderAt.put (T := 100) (e := 5) hB hb2 (bs' := bs ++ [.int .u8 c]) (by simpa using hown') (by decide)
  · exact ((hb1.alloc (by have := hb1.size; omega) _).grown hgrow (by have := hb1.size; simp; omega) (fun k hk => (hown.lt k hk).1)).setCell (p := ⟨b, 1, none⟩) hB _
set_option maxHeartbeats 2000000 in
set_option maxRecDepth 100000 in
theorem writeString_calls (B b : Nat) (bs : List Value) (s : ByteArray) (w : World) (h : Lib.IsBuilder 100 5 B b bs w) (hlen : bs.length + s.size ≤ 140737488355328) (hBw : B ≤ w.heap.size) :
    Calls Tryd.prog 62 #[.pointer (some ⟨b, 0, none⟩), .string s] w fun e w' => e = .returned (.tuple #[.int .i64 s.size, .nilIface]) ∧ (Lib.BuilderAt 100 5 B b (.pointer (some ⟨b, 0, none⟩)) (bs ++ Lib.strCells s) w' ∧ Below B w w') := by
  obtain ⟨i0, hi, hz0, hz1, hz2⟩ := info_parts infoByte
  have e240 := enters_copyCheck
  go_enter Tryd.func62, Tryd.ntmps62
  go_wp2_with (go_at_fn 87; refine (copyCheck_calls B b bs _ h).mono ?_)
  rintro e w1 ⟨rfl, h1, hb1⟩
  obtain ⟨hB, v, hbk, hown, hne⟩ := h1
  have c0 : w1.cell? ⟨b, 0, none⟩ = some (.pointer (some ⟨b, 0, none⟩)) := by rw [Lib.cell_of_heap hbk]; rfl
  have c1 : w1.cell? ⟨b, 1, none⟩ = some v := by rw [Lib.cell_of_heap hbk]; rfl
  go_wp2_with (at_builtin; refine Lib.wpList_append_own_string _ rfl _ _ 98 9 rfl B 5 i0 Tryd.underlying98 Tryd.underlying9 hi hz0 hz1 hz2 _ _ _ rfl hown s rfl ?c3 ?c4 ?c5 ?_)
  case c3 => unfold maxLen; omega
  case c4 => omega
  case c5 => have := hb1.size; omega
  intro v' w2 hown' hgrow _
  have hlt : b < w1.heap.size := by
    rcases Nat.lt_or_ge b w1.heap.size with h' | h'
    · exact h'
    · simp [Array.getElem?_eq_none h'] at hbk
  have hb2 : w2.heap[b]? = some (.cells #[.pointer (some ⟨b, 0, none⟩), v] 100 (0, 0)) := by
    rw [hgrow.block b hlt (fun e => hne e.symm)]
    exact hbk
  have d0 : w2.cell? ⟨b, 0, none⟩ = some (.pointer (some ⟨b, 0, none⟩)) := by rw [Lib.cell_of_heap hb2]; rfl
  have d1 : w2.cell? ⟨b, 1, none⟩ = some v := by rw [Lib.cell_of_heap hb2]; rfl
  have f1 : w2.frozen? ⟨b, 1, none⟩ = false := Lib.frozen_of_heap hb2 1
  obtain ⟨ao, n', cap, rfl⟩ : ∃ ao n' cap, v' = .slice ao n' cap := by
    rcases hown'.2 with ⟨hv, _⟩ | ⟨g, cap, cur, hv, _⟩
    · exact ⟨_, _, _, hv⟩
    · exact ⟨_, _, _, hv⟩
  go_wp2
  go_ret2
  refine ⟨rfl, ?_, ?_⟩
  · exact Lib.BuilderAt.put (T := 100) (e := 5) hB hb2 (bs' := bs ++ Lib.strCells s) (by simpa [Lib.strCells_length] using hown') (by decide)
  · exact (hb1.grown hgrow (by have := hb1.size; omega) (fun k hk => (hown.lt k hk).1)).setCell (p := ⟨b, 1, none⟩) hB _
end Go.Proofs.YthohahcpdgebbaaDoor.Wk
namespace Go.Proofs.YthohahcpdgebbaaDoor.Wk
open Go.RowKit Go.Proofs.YthohahcpdgebbaaDoorW.PrintWords Go.Proofs.YthohahcpdgebbaaDoorW.PrintLast Go.Proofs.YthohahcpdgebbaaDoorW.PrintMore
open Go.Proofs.YthohahcpdgebbaaDoor.Th
set_option linter.unusedVariables false
set_option linter.unusedSimpArgs false
def Tab (w : World) : Prop := Lib.TabIs Tryd.prog w "internal/strconv.uint64pow10" .u64 Lib.pow10Tab
theorem Tab.later {w w' : World} (h : Tab w) (hb : Below w.heap.size w w') : Tab w' := Lib.tabBelow_of_tabIs h w' hb
theorem bldAt_later {T e : TypeId} {B b : Nat} {p : Value} {bs : List Value} {w w' : World} (h : Lib.BuilderAt T e B b p bs w) (hb : Below w.heap.size w w') : Lib.BuilderAt T e B b p bs w' := by
  have hl := h.lt
  obtain ⟨h0, v, h1, h2, h3⟩ := h
  refine ⟨h0, v, by rw [hb.block b hl]; exact h1, h2.kept (row := none) ⟨hb.os, hb.tape, hb.output, hb.size, fun k hk _ => hb.block k hk⟩ ?_, h3⟩
  cases v.ownBlock <;> simp
theorem bld_later {T e : TypeId} {B b : Nat} {bs : List Value} {w w' : World} (h : Lib.IsBuilder T e B b bs w) (hb : Below w.heap.size w w') : Lib.IsBuilder T e B b bs w' :=
  h.elim (fun h => .inl (bldAt_later h hb)) (fun h => .inr (bldAt_later h hb))
theorem decDigits_len (n : Nat) (h : n < 10 ^ 20) : (Lib.decDigits n).length ≤ 20 := by
  rw [Lib.decDigits_eq, List.length_map, List.length_range]
  rcases Nat.lt_or_ge (Lib.nDigits n) 21 with h1 | h1
  · omega
  · exfalso
    have : ∀ (k m : Nat), k + 1 ≤ Lib.nDigits m → 10 ^ k ≤ m ∨ k = 0 := by
      intro k
      induction k with
      | zero => intro m _; exact .inr rfl
      | succ k ih =>
        intro m hm
        by_cases hm10 : m < 10
        · rw [Lib.nDigits_small hm10] at hm; omega
        · rw [Lib.nDigits_big hm10] at hm
          refine .inl ?_
          rcases ih (m / 10) (by omega) with h2 | h2
          · rw [Nat.pow_succ]; omega
          · subst h2; simp; omega
    rcases this 20 n h1 with h2 | h2
    · omega
    · omega
theorem itoa_len (n : Int) (h0 : -9223372036854775808 ≤ n) (h1 : n ≤ 9223372036854775807) : (Lib.itoa n).length ≤ 21 := by
  unfold Lib.itoa
  split
  · have := decDigits_len n.natAbs (by omega)
    simp; omega
  · have := decDigits_len n.toNat (by omega)
    omega
def itS (n : Int) : List UInt8 := Lib.itoa n ++ [32]
def arcS (a : Arc) : List UInt8 := itS a.lo ++ (itS a.hi ++ itS a.to)
def txt (l : List Arc) : List UInt8 := l.flatMap arcS
theorem itS_len (n : Int) (h0 : -9223372036854775808 ≤ n) (h1 : n ≤ 9223372036854775807) : (itS n).length ≤ 22 := by
  have := itoa_len n h0 h1
  simp [itS]; omega
theorem byteCells_app (a b : List UInt8) : Lib.byteCells a ++ Lib.byteCells b = Lib.byteCells (a ++ b) := by simp [Lib.byteCells]
def OkT (l : List Arc) : Prop := ∀ a ∈ l, 0 ≤ a.lo ∧ a.lo ≤ 1114111 ∧ 0 ≤ a.hi ∧ a.hi ≤ 1114111 ∧ -9223372036854775808 ≤ a.to ∧ a.to ≤ 9223372036854775807
theorem txt_len : ∀ (l : List Arc), OkT l → (txt l).length ≤ 66 * l.length
  | [], _ => by simp [txt]
  | a :: l, h => by
    obtain ⟨a1, a2, a3, a4, a5, a6⟩ := h a (List.mem_cons_self ..)
    have h1 := itS_len a.lo (by omega) (by omega)
    have h2 := itS_len a.hi (by omega) (by omega)
    have h3 := itS_len a.to (by omega) (by omega)
    have := txt_len l (fun b hb => h b (List.mem_cons_of_mem _ hb))
    simp only [txt, List.flatMap_cons, List.length_append, List.length_cons, arcS] at this ⊢
    omega
theorem txt_snoc (l : List Arc) (a : Arc) : txt (l ++ [a]) = txt l ++ arcS a := by simp [txt]
abbrev Bld (B b : Nat) (l : List UInt8) (w : World) : Prop := Lib.IsBuilder 100 5 B b (Lib.byteCells l) w
theorem run_index3 (x0 x1 x2 : Int) (w : World) : (Instr.index 138 (.agg #[.int .i64 x0, .int .i64 x1, .int .i64 x2]) (.int .i64 0)).run Tryd.prog w = .ok (.int .i64 x0) w ∧
    (Instr.index 138 (.agg #[.int .i64 x0, .int .i64 x1, .int .i64 x2]) (.int .i64 1)).run Tryd.prog w = .ok (.int .i64 x1) w ∧
    (Instr.index 138 (.agg #[.int .i64 x0, .int .i64 x1, .int .i64 x2]) (.int .i64 2)).run Tryd.prog w = .ok (.int .i64 x2) w := by
  have h1 := Tryd.isAgg3
  have h2 := Tryd.sizeOf3
  refine ⟨?_, ?_, ?_⟩ <;> simp [Instr.index, run_underlying Tryd.underlying138, asIntOf, part, h1, h2, go_sem]
set_option maxHeartbeats 4000000 in
set_option maxRecDepth 100000 in
theorem text_calls (A0 : Option Addr) (c0 : Nat) (l : List Arc) (w : World) (htab : Tab w)
    (hr0 : kArc.C w A0 l.length l) (hok : OkT l) (hlen : l.length ≤ 4294967296) :
    Calls Tryd.prog 80 #[.slice A0 l.length c0] w fun e w' => e = .returned (.string ⟨(txt l).toArray⟩) ∧ Below w.heap.size w w' := by
  have HR0 := Aside0.mk hr0
  have HT := Aside0.mk hok
  have HTab := Aside0.mk htab
  clear hr0 htab hok
  go_enter Tryd.func80, Tryd.ntmps80
  go_wp2
  go_loopw [10] (fun i wr => ∃ k : Nat, k ≤ l.length ∧ i = .int .i64 k ∧ Aside0 (Bld w.heap.size w.heap.size (txt (l.take k)) wr) ∧ Aside0 (Below w.heap.size w wr)) (fun i _ => l.length - (intOf i).toNat)
  case atStart => exact ⟨0, Nat.zero_le _, rfl, ⟨Lib.fresh_isBuilder _ _ _⟩, ⟨below_alloc (Below.refl _ _) _⟩⟩
  case round =>
    obtain ⟨k, hk, rfl, HO, HB⟩ := hrel
    by_cases hlt : k < l.length
    · obtain ⟨b0, o0, e, hb0, hc0, hc1, hc2⟩ := at_arc (Kd.C_below HR0.out HB.out) k hlt
      cases e
      have hm : l.getD k default ∈ l := by rw [List.getD_eq_getElem?_getD, List.getElem?_eq_getElem hlt]; exact List.getElem_mem hlt
      obtain ⟨t0, t1, t2, t3, t4, t5⟩ := HT.out _ hm
      have hstep : Aside0 (txt (l.take (k + 1)) = txt (l.take k) ++ arcS (l.getD k default)) := ⟨by
        rw [List.take_succ_eq_append_getElem hlt, txt_snoc, List.getD_eq_getElem?_getD, List.getElem?_eq_getElem hlt]; rfl⟩
      obtain ⟨a, ha⟩ : ∃ a, a = l.getD k default := ⟨_, rfl⟩
      obtain ⟨out, hout⟩ : ∃ out, out = txt (l.take k) := ⟨_, rfl⟩
      rw [← ha] at hc0 hc1 hc2 t0 t1 t2 t3 t4 t5 hstep
      rw [← hout] at HO hstep
      have hol : out.length ≤ 66 * k := by
        have := txt_len (l.take k) (fun b hb => HT.out b (List.mem_of_mem_take hb))
        rw [← hout] at this
        simp at this
        omega
      have HOL := Aside0.mk hol
      clear hm ha hout hol
      go_wp2
      go_loopw [25] (fun j wr => ∃ n : Nat, n ≤ 3 ∧ j = .int .i64 n ∧ Aside0 (Bld w.heap.size w.heap.size (out ++ ([a.lo, a.hi, a.to].take n).flatMap itS) wr) ∧ Aside0 (Below w.heap.size w wr)) (fun j _ => 3 - (intOf j).toNat)
      case atStart => exact ⟨0, by omega, rfl, ⟨by simpa using bld_later HO.out (below_alloc (Below.refl _ _) _)⟩, ⟨below_alloc HB.out _⟩⟩
      case round =>
        obtain ⟨n, hn, rfl, HO2, HB2⟩ := hrel
        rcases (by omega : n = 0 ∨ n = 1 ∨ n = 2 ∨ n = 3) with rfl | rfl | rfl | rfl
        · have hv0 : -9223372036854775808 ≤ a.lo := by omega
          have hv1 : a.lo ≤ 9223372036854775807 := by omega
          have hil := itoa_len a.lo hv0 hv1
          go_wp2_with fail
          rw [(run_index3 a.lo a.hi a.to _).1]
          simp only [Result.andThen]
          rw [Oper.upon_value]
          go_wp2_with fail
          refine (Tryd.strconv_Itoa a.lo hv0 hv1 _ (HTab.out.later HB2.out)).mono ?_
          rintro e w1 ⟨rfl, dn, os, hw1⟩
          have hbe : Below wr.heap.size wr w1 := by rw [hw1]; exact Lib.below_grow _ _ (Nat.le_refl _) _ _
          have HO3 := Aside0.mk (bld_later HO2.out hbe)
          have HB3 := Aside0.mk (HB2.out.trans (hbe.mono HB2.out.size))
          clear hw1 hbe
          have hl3 : (Lib.byteCells (out ++ ([a.lo, a.hi, a.to].take 0).flatMap itS)).length + (⟨(Lib.itoa a.lo).toArray⟩ : ByteArray).size ≤ 140737488355328 := by
            have e1 : (⟨(Lib.itoa a.lo).toArray⟩ : ByteArray).size = (Lib.itoa a.lo).length := by simp [ByteArray.size]
            have e2 := HOL.out
            have e3 := itS_len a.lo (by omega) (by omega)
            have e4 := itS_len a.hi (by omega) (by omega)
            rw [e1]
            simp [Lib.byteCells]
            omega
          have HL3 := Aside0.mk hl3
          clear hl3
          go_wp2_with fail
          refine (writeString_calls w.heap.size w.heap.size _ _ _ HO3.out HL3.out HB3.out.size).mono ?_
          rintro e w3 ⟨rfl, hq, hbq⟩
          have HO4 := Aside0.mk (show Bld w.heap.size w.heap.size (out ++ ([a.lo, a.hi, a.to].take 0).flatMap itS ++ Lib.itoa a.lo) w3 from .inr (by rw [← byteCells_app]; exact hq))
          have HB4 := Aside0.mk (HB3.out.trans hbq)
          clear hq hbq HO3 HB3
          go_wp2_with fail
          refine (writeByte_calls w.heap.size w.heap.size _ 32 _ HO4.out ?_ HB4.out.size).mono ?_
          · have e1 : (⟨(Lib.itoa a.lo).toArray⟩ : ByteArray).size = (Lib.itoa a.lo).length := by simp [ByteArray.size]
            have e2 := HOL.out
            have e3 := itS_len a.lo (by omega) (by omega)
            have e4 := itS_len a.hi (by omega) (by omega)
            simp [Lib.byteCells]
            omega
          rintro e w4 ⟨rfl, hq, hbq⟩
          have HO5 := Aside0.mk (show Bld w.heap.size w.heap.size (out ++ ([a.lo, a.hi, a.to].take (0 + 1)).flatMap itS) w4 from .inr (by
            have e1 : out ++ ([a.lo, a.hi, a.to].take (0 + 1)).flatMap itS = (out ++ ([a.lo, a.hi, a.to].take 0).flatMap itS ++ Lib.itoa a.lo) ++ [32] := by simp [itS]
            rw [e1, ← byteCells_app]; exact hq))
          have HB5 := Aside0.mk (HB4.out.trans hbq)
          clear hq hbq HO4 HB4
          go_wp2
          go_roundw
          case rel => exact ⟨0 + 1, by omega, by go_num, HO5, HB5⟩
          case measure => simp [intOf]
        · have hv0 : -9223372036854775808 ≤ a.hi := by omega
          have hv1 : a.hi ≤ 9223372036854775807 := by omega
          have hil := itoa_len a.hi hv0 hv1
          go_wp2_with fail
          rw [(run_index3 a.lo a.hi a.to _).2.1]
          simp only [Result.andThen]
          rw [Oper.upon_value]
          go_wp2_with fail
          refine (Tryd.strconv_Itoa a.hi hv0 hv1 _ (HTab.out.later HB2.out)).mono ?_
          rintro e w1 ⟨rfl, dn, os, hw1⟩
          have hbe : Below wr.heap.size wr w1 := by rw [hw1]; exact Lib.below_grow _ _ (Nat.le_refl _) _ _
          have HO3 := Aside0.mk (bld_later HO2.out hbe)
          have HB3 := Aside0.mk (HB2.out.trans (hbe.mono HB2.out.size))
          clear hw1 hbe
          have hl3 : (Lib.byteCells (out ++ ([a.lo, a.hi, a.to].take 1).flatMap itS)).length + (⟨(Lib.itoa a.hi).toArray⟩ : ByteArray).size ≤ 140737488355328 := by
            have e1 : (⟨(Lib.itoa a.hi).toArray⟩ : ByteArray).size = (Lib.itoa a.hi).length := by simp [ByteArray.size]
            have e2 := HOL.out
            have e3 := itS_len a.lo (by omega) (by omega)
            have e4 := itS_len a.hi (by omega) (by omega)
            rw [e1]
            simp [Lib.byteCells]
            omega
          have HL3 := Aside0.mk hl3
          clear hl3
          go_wp2_with fail
          refine (writeString_calls w.heap.size w.heap.size _ _ _ HO3.out HL3.out HB3.out.size).mono ?_
          rintro e w3 ⟨rfl, hq, hbq⟩
          have HO4 := Aside0.mk (show Bld w.heap.size w.heap.size (out ++ ([a.lo, a.hi, a.to].take 1).flatMap itS ++ Lib.itoa a.hi) w3 from .inr (by rw [← byteCells_app]; exact hq))
          have HB4 := Aside0.mk (HB3.out.trans hbq)
          clear hq hbq HO3 HB3
          go_wp2_with fail
          refine (writeByte_calls w.heap.size w.heap.size _ 32 _ HO4.out ?_ HB4.out.size).mono ?_
          · have e1 : (⟨(Lib.itoa a.hi).toArray⟩ : ByteArray).size = (Lib.itoa a.hi).length := by simp [ByteArray.size]
            have e2 := HOL.out
            have e3 := itS_len a.lo (by omega) (by omega)
            have e4 := itS_len a.hi (by omega) (by omega)
            simp [Lib.byteCells]
            omega
          rintro e w4 ⟨rfl, hq, hbq⟩
          have HO5 := Aside0.mk (show Bld w.heap.size w.heap.size (out ++ ([a.lo, a.hi, a.to].take (1 + 1)).flatMap itS) w4 from .inr (by
            have e1 : out ++ ([a.lo, a.hi, a.to].take (1 + 1)).flatMap itS = (out ++ ([a.lo, a.hi, a.to].take 1).flatMap itS ++ Lib.itoa a.hi) ++ [32] := by simp [itS]
            rw [e1, ← byteCells_app]; exact hq))
          have HB5 := Aside0.mk (HB4.out.trans hbq)
          clear hq hbq HO4 HB4
          go_wp2
          go_roundw
          case rel => exact ⟨1 + 1, by omega, by go_num, HO5, HB5⟩
          case measure => simp [intOf]
        · have hv0 : -9223372036854775808 ≤ a.to := by omega
          have hv1 : a.to ≤ 9223372036854775807 := by omega
          have hil := itoa_len a.to hv0 hv1
          go_wp2_with fail
          rw [(run_index3 a.lo a.hi a.to _).2.2]
          simp only [Result.andThen]
          rw [Oper.upon_value]
          go_wp2_with fail
          refine (Tryd.strconv_Itoa a.to hv0 hv1 _ (HTab.out.later HB2.out)).mono ?_
          rintro e w1 ⟨rfl, dn, os, hw1⟩
          have hbe : Below wr.heap.size wr w1 := by rw [hw1]; exact Lib.below_grow _ _ (Nat.le_refl _) _ _
          have HO3 := Aside0.mk (bld_later HO2.out hbe)
          have HB3 := Aside0.mk (HB2.out.trans (hbe.mono HB2.out.size))
          clear hw1 hbe
          have hl3 : (Lib.byteCells (out ++ ([a.lo, a.hi, a.to].take 2).flatMap itS)).length + (⟨(Lib.itoa a.to).toArray⟩ : ByteArray).size ≤ 140737488355328 := by
            have e1 : (⟨(Lib.itoa a.to).toArray⟩ : ByteArray).size = (Lib.itoa a.to).length := by simp [ByteArray.size]
            have e2 := HOL.out
            have e3 := itS_len a.lo (by omega) (by omega)
            have e4 := itS_len a.hi (by omega) (by omega)
            rw [e1]
            simp [Lib.byteCells]
            omega
          have HL3 := Aside0.mk hl3
          clear hl3
          go_wp2_with fail
          refine (writeString_calls w.heap.size w.heap.size _ _ _ HO3.out HL3.out HB3.out.size).mono ?_
          rintro e w3 ⟨rfl, hq, hbq⟩
          have HO4 := Aside0.mk (show Bld w.heap.size w.heap.size (out ++ ([a.lo, a.hi, a.to].take 2).flatMap itS ++ Lib.itoa a.to) w3 from .inr (by rw [← byteCells_app]; exact hq))
          have HB4 := Aside0.mk (HB3.out.trans hbq)
          clear hq hbq HO3 HB3
          go_wp2_with fail
          refine (writeByte_calls w.heap.size w.heap.size _ 32 _ HO4.out ?_ HB4.out.size).mono ?_
          · have e1 : (⟨(Lib.itoa a.to).toArray⟩ : ByteArray).size = (Lib.itoa a.to).length := by simp [ByteArray.size]
            have e2 := HOL.out
            have e3 := itS_len a.lo (by omega) (by omega)
            have e4 := itS_len a.hi (by omega) (by omega)
            simp [Lib.byteCells]
            omega
          rintro e w4 ⟨rfl, hq, hbq⟩
          have HO5 := Aside0.mk (show Bld w.heap.size w.heap.size (out ++ ([a.lo, a.hi, a.to].take (2 + 1)).flatMap itS) w4 from .inr (by
            have e1 : out ++ ([a.lo, a.hi, a.to].take (2 + 1)).flatMap itS = (out ++ ([a.lo, a.hi, a.to].take 2).flatMap itS ++ Lib.itoa a.to) ++ [32] := by simp [itS]
            rw [e1, ← byteCells_app]; exact hq))
          have HB5 := Aside0.mk (HB4.out.trans hbq)
          clear hq hbq HO4 HB4
          go_wp2
          go_roundw
          case rel => exact ⟨2 + 1, by omega, by go_num, HO5, HB5⟩
          case measure => simp [intOf]
        · go_wp2
          go_roundw
          case rel =>
            refine ⟨k + 1, by omega, by go_num, ⟨?_⟩, HB2⟩
            rw [hstep.out]
            simpa [arcS] using HO2.out
          case measure => simp [intOf]; omega
    · obtain rfl : k = l.length := by omega
      rw [List.take_length] at HO
      go_wp2_with fail
      refine (Tryd.Builder_String_any w.heap.size w.heap.size (txt l) _ HO.out HB.out.size).mono ?_
      rintro e w1 ⟨rfl, hb⟩
      have HB3 := Aside0.mk (HB.out.trans hb)
      go_wp2
      go_ret
      exact ⟨rfl, HB3.out⟩
end Go.Proofs.YthohahcpdgebbaaDoor.Wk
namespace Go.Proofs.YthohahcpdgebbaaDoor.Wk
open Go.RowKit Go.Proofs.YthohahcpdgebbaaDoorW.PrintWords Go.Proofs.YthohahcpdgebbaaDoorW.PrintLast Go.Proofs.YthohahcpdgebbaaDoorW.PrintMore
open Go.Proofs.YthohahcpdgebbaaDoor.Th
set_option linter.unusedVariables false
set_option linter.unusedSimpArgs false
def Oth (b : Nat) (w w' : World) : Prop := ∀ (k : Nat) (o : Obj), w.heap[k]? = some o → k ≠ b → (∀ c f, o ≠ .cells c 5 f) → w'.heap[k]? = some o
theorem copyCheckF_calls (B b : Nat) (bs : List Value) (w : World) (h : Lib.IsBuilder 100 5 B b bs w) :
    Calls Tryd.prog 87 #[.pointer (some ⟨b, 0, none⟩)] w fun e w' => e = .returned (.tuple #[]) ∧ (Lib.BuilderAt 100 5 B b (.pointer (some ⟨b, 0, none⟩)) bs w' ∧ Below B w w' ∧ Oth b w w') := by
  rcases h with h | h
  · refine (copyCheck_fresh b w h.cell0 h.shape h.frozen0).mono ?_
    rintro e w' ⟨rfl, rfl⟩
    exact ⟨rfl, h.used _, (Below.refl B w).setCell (p := ⟨b, 0, none⟩) h.1 _, fun k o hk hne _ => by rw [Below.heap_setCell _ _ _ _ hne]; exact hk⟩
  · refine (copyCheck_used b w h.cell0).mono ?_
    rintro e w' ⟨rfl, rfl⟩
    exact ⟨rfl, h, Below.refl B _, fun k o hk _ _ => hk⟩
set_option maxHeartbeats 2000000 in
set_option maxRecDepth 100000 in
theorem writeStringF_calls (B b : Nat) (bs : List Value) (s : ByteArray) (w : World) (h : Lib.IsBuilder 100 5 B b bs w) (hlen : bs.length + s.size ≤ 140737488355328) (hBw : B ≤ w.heap.size) :
    Calls Tryd.prog 62 #[.pointer (some ⟨b, 0, none⟩), .string s] w fun e w' => e = .returned (.tuple #[.int .i64 s.size, .nilIface]) ∧ (Lib.BuilderAt 100 5 B b (.pointer (some ⟨b, 0, none⟩)) (bs ++ Lib.strCells s) w' ∧ Below B w w' ∧ Oth b w w') := by
  obtain ⟨i0, hi, hz0, hz1, hz2⟩ := info_parts infoByte
  have e240 := enters_copyCheck
  go_enter Tryd.func62, Tryd.ntmps62
  go_wp2_with (go_at_fn 87; refine (copyCheckF_calls B b bs _ h).mono ?_)
  rintro e w1 ⟨rfl, h1, hb1, ho1⟩
  obtain ⟨hB, v, hbk, hown, hne⟩ := h1
  have HO1 := Aside0.mk ho1
  clear ho1
  have c0 : w1.cell? ⟨b, 0, none⟩ = some (.pointer (some ⟨b, 0, none⟩)) := by rw [Lib.cell_of_heap hbk]; rfl
  have c1 : w1.cell? ⟨b, 1, none⟩ = some v := by rw [Lib.cell_of_heap hbk]; rfl
  go_wp2_with (at_builtin; refine Lib.wpList_append_own_string _ rfl _ _ 98 9 rfl B 5 i0 Tryd.underlying98 Tryd.underlying9 hi hz0 hz1 hz2 _ _ _ rfl hown s rfl ?c3 ?c4 ?c5 ?_)
  case c3 => unfold maxLen; omega
  case c4 => omega
  case c5 => have := hb1.size; omega
  intro v' w2 hown' hgrow _
  have hlt : b < w1.heap.size := by
    rcases Nat.lt_or_ge b w1.heap.size with h' | h'
    · exact h'
    · simp [Array.getElem?_eq_none h'] at hbk
  have hb2 : w2.heap[b]? = some (.cells #[.pointer (some ⟨b, 0, none⟩), v] 100 (0, 0)) := by
    rw [hgrow.block b hlt (fun e => hne e.symm)]
    exact hbk
  have d0 : w2.cell? ⟨b, 0, none⟩ = some (.pointer (some ⟨b, 0, none⟩)) := by rw [Lib.cell_of_heap hb2]; rfl
  have d1 : w2.cell? ⟨b, 1, none⟩ = some v := by rw [Lib.cell_of_heap hb2]; rfl
  have f1 : w2.frozen? ⟨b, 1, none⟩ = false := Lib.frozen_of_heap hb2 1
  have HG := Aside0.mk (show ∀ (k : Nat) (o : Obj), w1.heap[k]? = some o → (∀ c f, o ≠ .cells c 5 f) → w2.heap[k]? = some o from fun k o hk hc => by
    have hkl : k < w1.heap.size := by
      rcases Nat.lt_or_ge k w1.heap.size with h' | h'
      · exact h'
      · simp [Array.getElem?_eq_none h'] at hk
    rw [hgrow.block k hkl (fun e => by
      obtain ⟨cells, hcc⟩ := own_typed hown k e.symm
      rw [hk] at hcc
      injection hcc with hcc
      exact hc _ _ hcc)]
    exact hk)
  obtain ⟨ao, n', cap, rfl⟩ : ∃ ao n' cap, v' = .slice ao n' cap := by
    rcases hown'.2 with ⟨hv, _⟩ | ⟨g, cap, cur, hv, _⟩
    · exact ⟨_, _, _, hv⟩
    · exact ⟨_, _, _, hv⟩
  go_wp2
  go_ret2
  refine ⟨rfl, ?_, ?_, ?_⟩
  · exact Lib.BuilderAt.put (T := 100) (e := 5) hB hb2 (bs' := bs ++ Lib.strCells s) (by simpa [Lib.strCells_length] using hown') (by decide)
  · exact (hb1.grown hgrow (by have := hb1.size; omega) (fun k hk => (hown.lt k hk).1)).setCell (p := ⟨b, 1, none⟩) hB _
  · intro k o hk hne2 hc
    rw [Below.heap_setCell _ _ _ _ hne2]
    exact HG.out k o (HO1.out k o hk hne2 hc) hc
theorem Oth.cell {b : Nat} {w w' : World} (h : Oth b w w') {p : Addr} {v : Value} (hp : w.cell? p = some v) (hne : p.block ≠ b) (hu : ∀ c f, w.heap[p.block]? ≠ some (.cells c 5 f)) : w'.cell? p = some v := by
  have hlt := World.block_lt_of_cell? w p hp
  have e := h p.block w.heap[p.block] (Array.getElem?_eq_getElem hlt) hne (fun c f e => hu c f (by rw [Array.getElem?_eq_getElem hlt, e]))
  unfold World.cell? at hp ⊢
  rw [Array.getElem?_eq_getElem hlt] at hp
  rw [e]
  exact hp
end Go.Proofs.YthohahcpdgebbaaDoor.Wk
