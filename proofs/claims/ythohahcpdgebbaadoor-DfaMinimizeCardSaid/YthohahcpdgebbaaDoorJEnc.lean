/- Proved: what a part of the given program (its deterministic automata, and the functions that they call) computes, and laws on that, under the conditions that each theorem names. -/
import Derived.Test.YthohahcpdgebbaaDoorJShelf
import Derived.Test.YthohahcpdgebbaaDoorJCls
import Derived.Laws.IdiomStrings
import Derived.Lib.BufferRead
import Derived.Lib.RuneBytes
import Derived.Test.YthohahcpdgebbaaDoorJThy
import Derived.Test.YthohahcpdgebbaaDoorJMin
import Derived.Test.YthohahcpdgebbaaDoorJDec
namespace Go.Proofs.YthohahcpdgebbaaDoor.Wk
open Go.RowKit Go.Proofs.YthohahcpdgebbaaDoorW.PrintWords Go.Proofs.YthohahcpdgebbaaDoorW.PrintLast Go.Proofs.YthohahcpdgebbaaDoorW.PrintMore
open Go.Proofs.YthohahcpdgebbaaDoor.Th
set_option linter.unusedVariables false
set_option linter.unusedSimpArgs false
def revd (xs : List Int) (i : Nat) : List Int := (List.range xs.length).map fun k => if k < i ∨ xs.length - i ≤ k then xs.getD (xs.length - 1 - k) 0 else xs.getD k 0
theorem revd_len (xs : List Int) (i : Nat) : (revd xs i).length = xs.length := by simp [revd]
theorem revd_zero (xs : List Int) : revd xs 0 = xs := by
  refine List.ext_getElem (revd_len _ _) (fun k h1 h2 => ?_)
  simp only [revd, List.getElem_map, List.getElem_range]
  rw [if_neg (by omega), List.getD_eq_getElem?_getD, List.getElem?_eq_getElem h2]
  rfl
theorem revd_get {xs : List Int} {i k : Nat} (hk : k < xs.length) : (revd xs i).getD k 0 = if k < i ∨ xs.length - i ≤ k then xs.getD (xs.length - 1 - k) 0 else xs.getD k 0 := by
  rw [List.getD_eq_getElem?_getD, List.getElem?_eq_getElem (by rw [revd_len]; exact hk)]
  simp [revd]
theorem revd_next {xs : List Int} {i : Nat} (h : i < xs.length - 1 - i) : ((revd xs i).set i (xs.getD (xs.length - 1 - i) 0)).set (xs.length - 1 - i) (xs.getD i 0) = revd xs (i + 1) := by
  refine List.ext_getElem (by simp [revd_len]) (fun k h1 h2 => ?_)
  have hk : k < xs.length := by simpa [revd_len] using h2
  rw [List.getElem_set, List.getElem_set]
  have e := revd_get (xs := xs) (i := i + 1) hk
  rw [List.getD_eq_getElem?_getD, List.getElem?_eq_getElem h2] at e
  have e' : (revd xs (i + 1))[k] = if k < i + 1 ∨ xs.length - (i + 1) ≤ k then xs.getD (xs.length - 1 - k) 0 else xs.getD k 0 := e
  rw [e']
  by_cases k1 : xs.length - 1 - i = k
  · rw [if_pos k1, if_pos (by omega), ← k1]
    congr 1
    omega
  · rw [if_neg k1]
    by_cases k2 : i = k
    · rw [if_pos k2, if_pos (by omega), k2]
    · rw [if_neg k2]
      have e3 := revd_get (xs := xs) (i := i) hk
      rw [List.getD_eq_getElem?_getD, List.getElem?_eq_getElem (by rw [revd_len]; exact hk)] at e3
      have e4 : (revd xs i)[k]'(by rw [revd_len]; exact hk) = if k < i ∨ xs.length - i ≤ k then xs.getD (xs.length - 1 - k) 0 else xs.getD k 0 := e3
      rw [e4]
      by_cases k3 : k < i ∨ xs.length - i ≤ k
      · rw [if_pos k3, if_pos (by omega)]
      · rw [if_neg k3, if_neg (by omega)]
theorem revd_end {xs : List Int} {i : Nat} (h : ¬ i < xs.length - 1 - i) (h2 : xs.length = 0 ∨ i ≤ xs.length) : revd xs i = xs.reverse := by
  refine List.ext_getElem (by simp [revd_len]) (fun k h1 h3 => ?_)
  have hk : k < xs.length := by simpa [revd_len] using h1
  rw [List.getElem_reverse]
  have e3 := revd_get (xs := xs) (i := i) hk
  rw [List.getD_eq_getElem?_getD, List.getElem?_eq_getElem h1] at e3
  have e4 : (revd xs i)[k] = if k < i ∨ xs.length - i ≤ k then xs.getD (xs.length - 1 - k) 0 else xs.getD k 0 := e3
  rw [e4]
  by_cases k3 : k < i ∨ xs.length - i ≤ k
  · rw [if_pos k3, List.getD_eq_getElem?_getD, List.getElem?_eq_getElem (show xs.length - 1 - k < xs.length by omega)]
    rfl
  · rw [if_neg k3, List.getD_eq_getElem?_getD, List.getElem?_eq_getElem hk]
    have : xs.length - 1 - k = k := by omega
    simp [this]
set_option maxHeartbeats 4000000 in
set_option maxRecDepth 100000 in
theorem reverse_calls {xs : List Int} {w : World} {base : Nat} {A : Option Addr} {c : Nat} (hR : (Kd.int .i32).R 21 w base (fun _ => True) (.slice A xs.length c) xs) :
    Calls Tryd.prog 41 #[.slice A xs.length c] w fun e w' => e = .returned (.tuple #[]) ∧ (Kd.int .i32).R 21 w' base (fun _ => True) (.slice A xs.length c) xs.reverse ∧ Below base w w' := by
  have hm := (Kd.R_reads' hR).2.2.2.1
  have HR := Aside0.mk hR
  clear hR
  go_enter Tryd.func41, Tryd.ntmps41
  go_wp2
  go_loopw [2, 3] (fun iv jv wr => ∃ i : Nat, iv = .int .i64 i ∧ jv = .int .i64 ((xs.length : Int) - 1 - i) ∧ 2 * i ≤ xs.length + 1 ∧ Aside0 ((Kd.int .i32).R 21 wr base (fun _ => True) (.slice A xs.length c) (revd xs i)) ∧ Aside0 (Below base w wr)) (fun iv _ _ => xs.length + 1 - (intOf iv).toNat)
  case atStart => exact ⟨0, rfl, by congr 1; omega, by omega, ⟨by rw [revd_zero]; exact HR.out⟩, ⟨Below.refl _ _⟩⟩
  case round =>
    obtain ⟨i, rfl, rfl, hi, HO, HB⟩ := hrel
    by_cases hlt : i < xs.length - 1 - i
    · obtain ⟨j, hj⟩ : ∃ j, j = xs.length - 1 - i := ⟨_, rfl⟩
      have ej : (xs.length : Int) - 1 - (i : Int) = (j : Int) := by omega
      rw [ej]
      obtain ⟨g, cap, e, hg0, hg1, _⟩ := Kd.R_form HO.out (by rw [revd_len]; omega)
      rw [revd_len] at e
      cases e
      obtain ⟨ci, fi⟩ := Kd.R_celln 0 HO.out (i : Int) (by omega) (by omega)
      obtain ⟨cj, fj⟩ := Kd.R_celln 0 HO.out (j : Int) (by omega) (by omega)
      rw [Int.toNat_natCast] at ci cj fi fj
      have ri : rdOf 0 (revd xs i) (i : Int) = xs.getD i 0 := by unfold rdOf; rw [Int.toNat_natCast, revd_get (by omega), if_neg (by omega)]
      have rj : rdOf 0 (revd xs i) (j : Int) = xs.getD j 0 := by unfold rdOf; rw [Int.toNat_natCast, revd_get (by omega), if_neg (by omega)]
      rw [ri] at ci
      rw [rj] at cj
      have hnx := revd_next hlt
      rw [← hj] at hnx
      have hput := fun m : Nat => (Kd.R_putg ((Kd.R_putg (Kd.R_drewN HO.out m) (i : Int) (xs.getD j 0)).1) (j : Int) (xs.getD i 0)).1
      simp only [Int.toNat_natCast] at hput
      rw [hnx] at hput
      have HPUT := Aside0.mk hput
      have hij : i < j := by omega
      have hjn : j < xs.length := by omega
      obtain ⟨x, hx⟩ : ∃ x, x = xs.getD i 0 := ⟨_, rfl⟩
      obtain ⟨y, hy⟩ : ∃ y, y = xs.getD j 0 := ⟨_, rfl⟩
      rw [← hx] at ci HPUT
      rw [← hy] at cj HPUT
      have hlb : (i : Int) < (j : Int) := by omega
      have hj1 : (j : Int) < (xs.length : Int) := by omega
      have HJ := Aside0.mk ej
      clear hnx hput ri rj hx hy ej hj hlt
      go_wp2_with fail
      go_region
      all_goals go_wp2
      go_roundw
      case rel =>
        have ej := HJ.out
        exact ⟨i + 1, by go_num, by congr 1; omega, by omega, ⟨HPUT.out 1⟩, ⟨((HB.out.drew).setCell (p := ⟨g, i, none⟩) hg0 _).setCell (p := ⟨g, j, none⟩) hg0 _⟩⟩
      case measure => simp [intOf]; omega
    · have HF := Aside0.mk (revd_end (xs := xs) (i := i) hlt (by omega))
      have hge : ¬ ((i : Int) < (xs.length : Int) - 1 - (i : Int)) := by omega
      go_wp2
      go_end0
      exact ⟨rfl, by rw [← HF.out]; exact HO.out, HB.out⟩
def encL (xs : List Int) : List UInt8 := xs.flatMap Lib.encodeRune
theorem encL_snoc (xs : List Int) (r : Int) : encL (xs ++ [r]) = encL xs ++ Lib.encodeRune r := by simp [encL]
theorem encodeRune_len (r : Int) : (Lib.encodeRune r).length ≤ 4 := by
  unfold Lib.encodeRune Lib.encodeRuneZ
  rw [List.length_map]
  repeat' split
  all_goals simp
theorem encL_len (xs : List Int) : (encL xs).length ≤ 4 * xs.length := by
  induction xs with
  | nil => simp [encL]
  | cons x xs ih =>
    have := encodeRune_len x
    unfold encL at ih ⊢
    rw [List.flatMap_cons, List.length_append, List.length_cons]
    omega
set_option maxHeartbeats 4000000 in
set_option maxRecDepth 100000 in
theorem encode_calls (xs : List Int) (hx : ∀ r ∈ xs, -2147483648 ≤ r ∧ r ≤ 2147483647) (hl : xs.length ≤ 1000000) (A : Option Addr) (c : Nat) (w : World) (hC : (Kd.int .i32).C w A xs.length xs) :
    Calls Tryd.prog 42 #[.slice A xs.length c] w fun e w' => e = .returned (.string ⟨(encL xs).toArray⟩) ∧ Below w.heap.size w w' := by
  have HC := Aside0.mk hC
  have HX := Aside0.mk hx
  clear hC hx
  go_enter Tryd.func42, Tryd.ntmps42
  go_wp2
  go_loopw [3, 8] (fun v iv wr => ∃ k : Nat, iv = .int .i64 k ∧ k ≤ xs.length ∧ Aside0 (wr.ownsRow w.heap.size 5 1 v (encL (xs.take k)).length (Lib.byteCells (encL (xs.take k)))) ∧ Aside0 (Below w.heap.size w wr)) (fun _ iv _ => xs.length - (intOf iv).toNat)
  case atStart => exact ⟨0, rfl, by omega, ⟨by have h := Kd.own_of_R (Kd.R_nil (Kd.int .u8) 5 w w.heap.size (fun _ => True)); simpa [encs, encL, Lib.byteCells] using h⟩, ⟨Below.refl _ _⟩⟩
  case round =>
    obtain ⟨k, rfl, hk, HO, HB⟩ := hrel
    by_cases hlt : k < xs.length
    · obtain ⟨b1, o1, e1, hb1, hc1⟩ := at_num (Kd.C_below HC.out HB.out) k hlt
      cases e1
      have htk : xs.take (k + 1) = xs.take k ++ [xs.getD k 0] := by rw [List.take_succ_eq_append_getElem hlt, List.getD_eq_getElem?_getD, List.getElem?_eq_getElem hlt]; rfl
      obtain ⟨r0, r1⟩ := HX.out (xs.getD k 0) (by rw [List.getD_eq_getElem?_getD, List.getElem?_eq_getElem hlt]; exact List.getElem_mem hlt)
      obtain ⟨r, hr⟩ : ∃ r, r = xs.getD k 0 := ⟨_, rfl⟩
      rw [← hr] at hc1 htk r0 r1
      have hel := encL_len (xs.take k)
      rw [List.length_take] at hel
      obtain ⟨E, hE⟩ : ∃ E, E = encL (xs.take k) := ⟨_, rfl⟩
      have hen : encL (xs.take (k + 1)) = E ++ Lib.encodeRune r := by rw [htk, encL_snoc, hE]
      rw [← hE] at HO hel
      have HEN := Aside0.mk hen
      have hlen : E.length + 4 ≤ 140737488355328 := by omega
      clear hr htk hE hen hel
      go_wp2_with fail
      refine (Tryd.utf8_AppendRune_plain w.heap.size _ E.length (Lib.byteCells E) r r0 r1 _ HO.out hlen HB.out.size).mono ?_
      rintro e w1 ⟨v', rfl, hown, o, hg⟩
      have HO1 := Aside0.mk hown
      have HB1 := Aside0.mk ((HB.out.alloc HB.out.size o).grown hg (by have := HB.out.size; simp; omega) (fun k hk => (HO.out.lt k hk).1))
      clear hown hg
      go_wp2
      go_roundw
      case rel =>
        refine ⟨k + 1, by go_num, by omega, ⟨?_⟩, HB1⟩
        have h := HO1.out
        rw [HEN.out, List.length_append]
        have e1 : Lib.byteCells (E ++ Lib.encodeRune r) = Lib.byteCells E ++ Lib.runeCells r := by rw [← Lib.byteCells_encodeRune]; simp [Lib.byteCells]
        have e2 : (Lib.runeCells r).length = (Lib.encodeRune r).length := by rw [← Lib.byteCells_encodeRune]; simp [Lib.byteCells]
        rw [e1, ← e2]
        exact h
      case measure => simp [intOf]; omega
    · obtain rfl : k = xs.length := by omega
      rw [List.take_length] at HO
      have HB9 := HB
      rcases HO.out.2 with ⟨hv, hz⟩ | ⟨g, cap, cur, hv, _, hg, _, _, _, htk⟩
      · subst hv
        have he : encL xs = [] := by first | exact List.length_eq_zero_iff.1 hz | exact List.length_eq_zero_iff.1 hz.symm | (simpa [Lib.byteCells] using hz)
        have hcv := Lib.run_convert_nil_bytes (P := Tryd.prog) wr 98 9 5 0 Tryd.underlying98 Tryd.underlying5 Tryd.underlying9
        have HE := Aside0.mk he
        clear hz he HO
        go_wp2
        go_ret
        exact ⟨by rw [HE.out]; rfl, HB9.out⟩
      · subst hv
        rw [Nat.mul_one] at htk
        have hcv := run_convert_bytes_back wr 98 9 5 ⟨g, 0, none⟩ cap (encL xs) Tryd.underlying98 Tryd.underlying5 Tryd.underlying9 (Lib.bytes_of_row hg htk)
        clear htk hg HO
        go_wp2
        go_ret
        exact ⟨rfl, HB9.out⟩
end Go.Proofs.YthohahcpdgebbaaDoor.Wk
namespace Go.Proofs.YthohahcpdgebbaaDoor.Wk
open Go.RowKit Go.Proofs.YthohahcpdgebbaaDoorW.PrintWords Go.Proofs.YthohahcpdgebbaaDoorW.PrintLast Go.Proofs.YthohahcpdgebbaaDoorW.PrintMore
open Go.Proofs.YthohahcpdgebbaaDoor.Th
set_option linter.unusedVariables false
set_option linter.unusedSimpArgs false
def kSt : Kd Stp := Kd.iso (Kd.pair (Kd.pair (Kd.int .i64) (Kd.int .i32)) (Kd.int .i64)) (fun x : Stp => ((x.from_, x.by_), x.at_))
def stCells (x : Stp) : List Value := [.int .i64 x.from_, .int .i32 x.by_, .int .i64 x.at_]
theorem kSt_open {w : World} {x : Stp} {cs : List Value} (h : kSt.K w x cs) : cs = [.int .i64 x.from_, .int .i32 x.by_, .int .i64 x.at_] := by
  obtain ⟨_, _, rfl, ⟨_, _, rfl, rfl, rfl⟩, rfl⟩ := h
  rfl
theorem kSt_mkM (w : World) (base : Nat) (ok : Nat → Prop) (x : Stp) : kSt.M w base ok x [.int .i64 x.from_, .int .i32 x.by_, .int .i64 x.at_] :=
  ⟨[.int .i64 x.from_, .int .i32 x.by_], [.int .i64 x.at_], rfl, ⟨[.int .i64 x.from_], [.int .i32 x.by_], rfl, rfl, rfl⟩, rfl⟩
theorem infoSt : (Tryd.prog.info? 76).map (fun i => (i.zero, i.size, i.bytes)) = some (some (.agg #[.int .i64 0, .int .i32 0, .int .i64 0]), 3, 24) := by kernel_rfl
theorem st_E {q e : Nat} (hq : q ∈ e :: kSt.E) : q = e := by simpa [kSt, Kd.iso, Kd.pair, Kd.int, Kd.scalar] using hq
theorem kSt_flat (w : World) (base : Nat) (ok : Nat → Prop) (x : Stp) (cs : List Value) : kSt.M w base ok x cs ↔ cs = stCells x :=
  ⟨fun h => kSt_open (kSt.K_of_M h), fun h => by rw [h]; exact kSt_mkM _ _ _ _⟩
theorem at_st {w : World} {A : Option Addr} {n : Nat} {xs : List Stp} (h : Kd.C kSt w A n xs) (i : Nat) (hi : i < n) :
    ∃ b o, A = some ⟨b, o, none⟩ ∧ b < w.heap.size ∧ w.cell? ⟨b, o + i * 3, none⟩ = some (.int .i64 (xs.getD i default).from_) ∧ w.cell? ⟨b, o + i * 3 + 1, none⟩ = some (.int .i32 (xs.getD i default).by_) ∧
      w.cell? ⟨b, o + i * 3 + 2, none⟩ = some (.int .i64 (xs.getD i default).at_) := by
  obtain ⟨b, o, e, hb, hc⟩ := C_lit h (by omega) (by decide) default
  obtain ⟨c, _, hK, hc⟩ := hc i hi
  obtain rfl := kSt_open hK
  exact ⟨b, o, e, hb, hc 0 _ rfl, hc 1 _ rfl, hc 2 _ rfl⟩
theorem one_St {W : World} {base b : Nat} {x : Stp} (hb : base ≤ b) (h : W.heap[b]? = some (.cells #[.int .i64 x.from_, .int .i32 x.by_, .int .i64 x.at_] 76 (0, 0))) : kSt.R 76 W base (fun _ => True) (.slice (some ⟨b, 0, none⟩) 1 1) [x] :=
  ⟨fun _ _ => trivial, [.int .i64 x.from_, .int .i32 x.by_, .int .i64 x.at_], ⟨rfl, .inr ⟨b, 1, _, rfl, hb, h, Nat.le_refl _, by decide, rfl, rfl⟩⟩, (reps_flat stCells 3 (fun _ => rfl) (kSt_flat _ _ _) _ _).2 rfl⟩
theorem getD_in2 {α : Type} {l : List α} {k : Nat} (z : α) (h : k < l.length) : l.getD k z ∈ l := by
  rw [List.getD_eq_getElem?_getD, List.getElem?_eq_getElem h]
  exact List.getElem_mem h
theorem row_mapB {α : Type} {d : Kd α} {e base nb : Nat} {ok : Nat → Prop} {w w1 : World} {v : Value} {xs : List α} (h : d.R e w base ok v xs) (hm : ∀ {q t : Nat} {cells : Array Value}, w.heap[q]? = some (.cells cells t (0, 0)) → q ≠ nb) (hg : w.grownBy w1 (some nb)) : d.R e w1 base ok v xs :=
  row_map h hm hg
theorem three_cells2 {w : World} {b : Nat} {u v x : Value} {t : TypeId} (h : w.heap[b]? = some (.cells #[u, v, x] t (0, 0))) : w.cell? ⟨b, 0, none⟩ = some u ∧ w.cell? ⟨b, 1, none⟩ = some v ∧ w.cell? ⟨b, 2, none⟩ = some x := put3_cells h
theorem encode_n (xs : List Int) (n : Nat) (hn : n = xs.length) (hx : ∀ r ∈ xs, -2147483648 ≤ r ∧ r ≤ 2147483647) (hl : xs.length ≤ 1000000) (A : Option Addr) (c : Nat) (w : World) (hC : (Kd.int .i32).C w A n xs) :
    Calls Tryd.prog 42 #[.slice A n c] w fun e w' => e = .returned (.string ⟨(encL xs).toArray⟩) ∧ Below w.heap.size w w' := by
  subst hn
  exact encode_calls xs hx hl A c w hC
def ShRes (d : Dfa) (label : Int) (e : Ending) : Prop := (∃ u, Least d label u ∧ u.length ≤ 3000 ∧ e = .returned (.tuple #[.string ⟨(encL u).toArray⟩, .bool true])) ∨ ((∀ u, allC u → run d d.start u ≠ label) ∧ e = .returned (.tuple #[.string ⟨#[]⟩, .bool false]))
structure SM (wr : World) (base mb : Nat) (bx : Array Value) (v : Value) (steps : List Stp) : Prop where
  box : wr.heap[base]? = some (.cells bx 28 (0, 0))
  st : kSt.R 76 wr base (fun _ => True) v steps
  map : MapB wr mb steps.length (steps.map Stp.at_)
theorem SM.later {wr w' : World} {base mb : Nat} {bx : Array Value} {v : Value} {steps : List Stp} (h : SM wr base mb bx v steps) (hb : Below wr.heap.size wr w') : SM w' base mb bx v steps :=
  ⟨by rw [hb.block _ (box_lt h.box)]; exact h.box, Kd.R_below h.st hb, h.map.later hb⟩
theorem ws_len {d : Dfa} {label : Int} {steps : List Stp} {ws : List (List Int)} {i p : Nat} (h : SrI d label steps ws i p) : ∀ (j : Nat) (u : List Int), ws[j]? = some u → u.length ≤ j := by
  intro j
  induction j using Nat.strongRecOn with
  | _ j ih =>
    intro u hu
    have hj : j < steps.length := by rw [← h.len]; exact (List.getElem?_eq_some_iff.1 hu).1
    rcases h.from_ j _ u (List.getElem?_eq_getElem hj) hu with rfl | ⟨f, v, _, h2, _, h4, h5⟩
    · rw [h.head.2] at hu
      injection hu with hu
      rw [← hu]
      simp
    · have := ih f h2 v h4
      rw [h5]
      simp
      omega
set_option maxHeartbeats 8000000 in
set_option maxRecDepth 100000 in
theorem shortest_calls (d : Dfa) (hok : Ok d) (label : Int) (hlab : 0 ≤ label) (A1 : Option Addr) (c1 : Nat) (A2 : Option Addr) (c2 : Nat) (w : World) (hd : RdD w d A1 c1 A2 c2) (harc : ∀ l ∈ d.arcs, l.length ≤ 4294967296) :
    Calls Tryd.prog 19 #[.agg #[.int .i64 d.start, .slice A1 d.arcs.length c1, .slice A2 d.labels.length c2], .int .i64 label] w fun e w' => ShRes d label e ∧ Below w.heap.size w w' := by
  obtain ⟨m1, m2⟩ := hd.max
  have HD := Aside0.mk hd
  have HOK := Aside0.mk hok
  have HA := Aside0.mk harc
  have N2 := Aside0.mk (show d.labels.length = d.arcs.length from hok.len)
  have n1 : d.arcs.length ≤ 3000 := hok.lim
  have s0 : 0 ≤ d.start := hok.st0
  have s1 : d.start < (d.arcs.length : Int) := hok.st1
  have tl : decide (label < 0) = false := decide_eq_false (by omega)
  have hln : label ≠ -1 := by omega
  have HLN := Aside0.mk hln
  clear hd hok harc hln
  go_enter Tryd.func19, Tryd.ntmps19
  go_wp2_with fail
  refine (check_calls d A1 c1 A2 c2 _ (HD.out.below (below_alloc (Below.refl _ _) _))).mono ?_
  rintro e w1 ⟨hc, hb⟩
  rcases hc with ⟨rfl, _⟩ | ⟨rfl, hno⟩
  case inr => exact absurd HOK.out hno
  have hb0 : Below (w.heap.size + 1) (w.alloc (.cells #[.int .i64 d.start, .slice A1 d.arcs.length c1, .slice A2 d.labels.length c2] 28)) w1 := by
    have e : (w.alloc (.cells #[.int .i64 d.start, .slice A1 d.arcs.length c1, .slice A2 d.labels.length c2] 28)).heap.size = w.heap.size + 1 := by simp
    rwa [e] at hb
  obtain ⟨hbox, hbel, hwz⟩ := box_later hb0
  have x0 := hbox 0 _ rfl
  have hx1 : w1.heap[w.heap.size]? = some (.cells #[.int .i64 d.start, .slice A1 d.arcs.length c1, .slice A2 d.labels.length c2] 28 (0, 0)) := by
    rw [hb0.block _ (by omega)]
    exact heap_alloc_new w _
  have hmm := @run_makeMap Tryd.prog
  have HB1 := Aside0.mk hbel
  have HX1 := Aside0.mk hx1
  have hkey := keyI_of (k := d.start) (WalkArith.wf_i64 (by omega))
  have HKEY := Aside0.mk hkey
  have ne0 := World.new_ne _ _ x0
  clear hb hb0 hbox hbel hx1 hkey
  have hbs : Below w1.heap.size w1 ((w1.alloc (.cells #[.int .i64 (-1), .int .i32 0, .int .i64 d.start] 76)).alloc (.map #[] 0)) := below_alloc (below_alloc (Below.refl _ _) _) _
  have hst1 : ((w1.alloc (.cells #[.int .i64 (-1), .int .i32 0, .int .i64 d.start] 76)).alloc (.map #[] 0)).heap[w1.heap.size]? = some (.cells #[.int .i64 (-1), .int .i32 0, .int .i64 d.start] 76 (0, 0)) := by
    rw [heap_alloc_old _ _ (by simp)]
    exact heap_alloc_new w1 _
  have hmb1 := mapB_made (w1.alloc (.cells #[.int .i64 (-1), .int .i32 0, .int .i64 d.start] 76))
  rw [show (w1.alloc (.cells #[.int .i64 (-1), .int .i32 0, .int .i64 d.start] 76)).heap.size = w1.heap.size + 1 by simp] at hmb1
  have HBS := Aside0.mk hbs
  have HST1 := Aside0.mk hst1
  have HMB1 := Aside0.mk hmb1
  clear hbs hst1 hmb1
  go_wp2_with (refine wpList_newB rfl _ _ _ 78 (.inr rfl) Tryd.underlying78 rfl HMB1.out (by decide) _ d.start rfl HKEY.out (by simp) rfl ?_; intro w2 hm2 hg2; have HM2 := Aside0.mk hm2; have HG2 := Aside0.mk hg2; clear hm2 hg2)
  have hsm : SM w2 w.heap.size (w1.heap.size + 1) #[.int .i64 d.start, .slice A1 d.arcs.length c1, .slice A2 d.labels.length c2] (.slice (some ⟨w1.heap.size, 0, none⟩) 1 1) [⟨-1, 0, d.start⟩] := by
    have h2 := HM2.out
    have hg := HG2.out
    refine ⟨?_, one_St (Nat.le_of_lt hwz) ?_, h2⟩
    · rw [hg.block _ (by simp; omega) (by simp; omega), HBS.out.block _ (box_lt HX1.out)]
      exact HX1.out
    · rw [hg.block _ (by simp; omega) (by simp)]
      exact HST1.out
  have HSM := Aside0.mk hsm
  have HB2 := Aside0.mk (show Below w.heap.size w w2 from (HB1.out.trans (HBS.out.mono (Nat.le_of_lt hwz))).grown HG2.out (by simp; omega) (fun q hq => by injection hq with hq; rw [← hq]; omega))
  have HSI := Aside0.mk (srI_start HOK.out label)
  clear hsm hmm x0 ne0
  obtain ⟨mb, hmb⟩ : ∃ mb, mb = w1.heap.size + 1 := ⟨_, rfl⟩
  rw [← hmb] at HSM
  have HMBE := Aside0.mk hmb
  obtain ⟨bx, hbx⟩ : ∃ bx : Array Value, bx = #[.int .i64 d.start, .slice A1 d.arcs.length c1, .slice A2 d.labels.length c2] := ⟨_, rfl⟩
  rw [← hbx] at HSM
  have HBX := Aside0.mk hbx
  clear hbx
  go_wp2
  go_loopw [6, 8] (fun v iv wr => ∃ i : Nat, iv = .int .i64 i ∧ i ≤ d.arcs.length ∧ Aside0 (∃ steps ws, SM wr w.heap.size mb bx v steps ∧ SrI d label steps ws i 0) ∧ Aside0 (Below w.heap.size w wr)) (fun _ iv _ => d.arcs.length + 1 - (intOf iv).toNat)
  case atStart => exact ⟨0, rfl, by omega, ⟨_, _, HSM.out, HSI.out⟩, HB2⟩
  case round =>
    obtain ⟨i, rfl, hi, HQ, HB⟩ := hrel
    obtain ⟨steps, ws, hM, hI⟩ := HQ.out
    have hsl := srI_len hI
    obtain ⟨As, cs, rfl⟩ := Kd.R_slice hM.st
    by_cases hlt : i < steps.length
    · have hib := hM.box
      rw [HBX.out] at hib
      obtain ⟨x0, x1, x2⟩ := put3_cells hib
      obtain ⟨b1, o1, e, hb1, hs0, hs1, hs2⟩ := at_st (Kd.R_reads' hM.st).2.2 i hlt
      cases e
      have hsi : steps[i]? = some (steps.getD i default) := by rw [List.getD_eq_getElem?_getD, List.getElem?_eq_getElem hlt]; rfl
      have hwi : ∃ u, ws[i]? = some u := ⟨_, List.getElem?_eq_getElem (by rw [hI.len]; exact hlt)⟩
      obtain ⟨u, hu⟩ := hwi
      obtain ⟨s, hs⟩ : ∃ s, s = steps.getD i default := ⟨_, rfl⟩
      rw [← hs] at hs0 hs1 hs2 hsi
      obtain ⟨_, _, a0, a1⟩ := hI.ok i s u hsi hu
      have hin : i < d.arcs.length := by have h : d.n = d.arcs.length := rfl; omega
      obtain ⟨b2, o2, e, hb2, hl2⟩ := at_num HD.out.labs s.at_.toNat (by rw [N2.out]; unfold Dfa.n at a1; omega)
      cases e
      have hl3 := (HB.out.cell hb2).trans hl2
      rw [lab_is HOK.out a0 a1] at hl3
      have HSI2 := Aside0.mk (And.intro hsi hu)
      have HM := Aside0.mk hM
      have HI := Aside0.mk hI
      have hb2' : b2 < wr.heap.size := Nat.lt_of_lt_of_le hb2 HB.out.size
      have hi1 : (i : Int) < (steps.length : Int) := by omega
      have ha1 : s.at_ < (d.arcs.length : Int) := a1
      have ha2 : s.at_ < (d.labels.length : Int) := by rw [N2.out]; exact a1
      obtain ⟨y, hy⟩ : ∃ y, y = d.lab s.at_ := ⟨_, rfl⟩
      rw [← hy] at hl3
      have HY := Aside0.mk hy
      clear hM hI hsi hu hs hl2 hy hib HQ
      by_cases hyl : y = label
      · have tb : (y == label) = true := beq_iff_eq.2 hyl
        have HF := Aside0.mk (srI_found HLN.out HI.out HSI2.out.1 HSI2.out.2 (by rw [← HY.out]; exact hyl))
        have HUL := Aside0.mk (ws_len HI.out i u HSI2.out.2)
        clear hyl
        go_wp2_with fail
        go_quiet (fail)
        go_wp2
        have hM9 := HM.out.later (pw_below_drewN (Below.refl _ _) nq)
        have HM9 := Aside0.mk hM9.st
        have HB9 := Aside0.mk (pw_below_drewN HB.out nq)
        obtain ⟨wo, rfl⟩ : ∃ wo : World, wo = wr := ⟨_, rfl⟩
        clear hM9
        go_loopw [9, 10] (fun v kv wr => ∃ k : Nat, kv = .int .i64 k ∧ k < steps.length ∧ Aside0 (∃ out uk, (Kd.int .i32).R 21 wr w.heap.size (fun _ => True) v out ∧ ws[k]? = some uk ∧ out ++ uk.reverse = u.reverse) ∧ Aside0 (kSt.R 76 wr w.heap.size (fun _ => True) (.slice (some ⟨b1, o1, none⟩) steps.length cs) steps) ∧ Aside0 (Below w.heap.size w wr)) (fun _ kv _ => (intOf kv).toNat)
        case atStart => exact ⟨i, rfl, hlt, ⟨[], u, Kd.R_nil _ _ _ _ _, HSI2.out.2, by simp⟩, HM9, HB9⟩
        case round =>
          obtain ⟨k, rfl, hk, HQ3, HS3, HB3⟩ := hrel
          obtain ⟨out, uk, hro, huk, hou⟩ := HQ3.out
          obtain ⟨b4, o4, e, hb4, ht0, ht1, ht2⟩ := at_st (Kd.R_reads' HS3.out).2.2 k hk
          cases e
          have hsk : steps[k]? = some (steps.getD k default) := by rw [List.getD_eq_getElem?_getD, List.getElem?_eq_getElem hk]; rfl
          have hfr := HI.out.from_ k _ uk hsk huk
          have hk1 : (k : Int) < (steps.length : Int) := by omega
          obtain ⟨Ao, co, rfl⟩ := Kd.R_slice hro
          by_cases hk0 : k = 0
          · subst hk0
            have h0 := HI.out.head
            rw [h0.2] at huk
            injection huk with huk
            have hs00 : steps.getD 0 default = ⟨-1, 0, d.start⟩ := by rw [List.getD_eq_getElem?_getD, h0.1]; rfl
            rw [hs00] at ht0
            simp only [Nat.zero_mul, Nat.add_zero] at ht0
            have hof : out = u.reverse := by rw [← hou, ← huk]; simp
            have HRO := Aside0.mk hro
            have HOF := Aside0.mk hof
            have HLE := Aside0.mk HF.out
            clear hro hou hsk hfr huk hof hs00 h0 HQ3 ht1 ht2
            go_wp2_with fail
            refine (reverse_calls HRO.out).mono ?_
            rintro e w5 ⟨rfl, hR5, hb5⟩
            have hrev : out.reverse = u := by rw [HOF.out, List.reverse_reverse]
            rw [hrev] at hR5
            have hul : out.length = u.length := by rw [HOF.out, List.length_reverse]
            have huC := HLE.out.1
            have hu3 := HUL.out
            have HR5 := Aside0.mk (Kd.R_reads' hR5)
            have HB5 := Aside0.mk (HB3.out.trans hb5)
            have HUC := Aside0.mk huC
            have HULL := Aside0.mk hul
            clear hR5 hb5 hrev hul huC hu3
            go_wp2_with fail
            refine (encode_n u out.length HULL.out (fun r hr => by have := HUC.out r hr; unfold isC at this; omega) (by have := HUL.out; omega) Ao co w5 (by have := HR5.out; rw [HULL.out] at this ⊢; exact this.2.2)).mono ?_
            rintro e w6 ⟨rfl, hb6⟩
            have HB6 := Aside0.mk (HB5.out.trans (hb6.mono HB5.out.size))
            go_wp2
            go_ret2
            exact ⟨.inl ⟨u, HLE.out, by have := HUL.out; omega, rfl⟩, HB6.out⟩
          · rcases hfr with hfr | ⟨f, vf, q1, q2, _, q4, q5⟩
            · exact absurd hfr hk0
            · obtain ⟨t, ht⟩ : ∃ t, t = steps.getD k default := ⟨_, rfl⟩
              rw [← ht] at ht0 ht1 q1 q5
              rw [q1] at ht0
              have hfb : ((f : Int) != -1) = true := bne_iff_ne.2 (by omega)
              have hol : out.length ≤ 3000 := by
                have h1 := congrArg List.length hou
                simp at h1
                have h2 := HUL.out
                omega
              have HOU := Aside0.mk (show (out ++ [t.by_]) ++ vf.reverse = u.reverse from by rw [← hou, q5]; simp)
              have HRO := Aside0.mk hro
              have HVF := Aside0.mk q4
              have HTT := Aside0.mk ht
              have HQ1 := Aside0.mk q1
              clear hro hou hsk huk ht q1 q5 q4 HQ3
              go_wp2_with (at_builtin; refine Kd.R_append (Kd.int .i32) (w0 := w) w.heap.size rfl _ _ 48 21 (.int .i32 0) 4 rfl Tryd.underlying48 infoRune rfl (by decide) (by decide) (.slice Ao out.length co) out t.by_ [.int .i32 t.by_] (fun _ => True) (fun _ => False) rfl (by first | (go_simp; done) | (go_simp; rfl)) rfl (fun _ hk => hk.elim) (fun _ _ => trivial) ?aO ?aB ?aS ?aL ?_; (case aO => exact HRO.out); (case aB => exact HB3.out); (case aS => exact HB3.out.size); (case aL => omega); intro v1 w5 hR hB hg hat; have hs5 := Kd.R_over' HS3.out (Kd.R_typed HRO.out) (fun q hq => by rw [st_E hq]; decide) hg; obtain ⟨b6, o6, e6, _, y0, _, _⟩ := at_st (Kd.R_reads' hs5).2.2 k hk; cases e6; rw [← HTT.out] at y0; rw [HQ1.out] at y0; have HR5 := Aside0.mk hR; have HB5 := Aside0.mk hB; have HS5 := Aside0.mk hs5; clear hR hB hg hat hs5)
              go_roundw
              case rel => exact ⟨f, rfl, by omega, ⟨_, vf, HR5.out, HVF.out, HOU.out⟩, HS5, HB5⟩
              case measure => simp [intOf]; omega
      · have tb : (y == label) = false := beq_eq_false_iff_ne.2 hyl
        have HNL := Aside0.mk (show d.lab s.at_ ≠ label from by rw [← HY.out]; exact hyl)
        clear hyl
        obtain ⟨q1, o3, A3, c3, e, hq1, hc1, _, hrl⟩ := at_arcs HD.out.arcs s.at_.toNat (by unfold Dfa.n at a1; omega)
        cases e
        have hc2 := (HB.out.cell hq1).trans hc1
        have hlm := HA.out (d.arcs.getD s.at_.toNat []) (getD_in2 [] (by unfold Dfa.n at a1; omega))
        obtain ⟨l, hl⟩ : ∃ l, l = d.arcs.getD s.at_.toNat [] := ⟨_, rfl⟩
        have hal : d.arc s.at_ = l := by rw [hl]; rfl
        rw [← hl] at hc2 hrl hlm
        have HRL := Aside0.mk hrl
        have HAL := Aside0.mk hal
        have hq1' : q1 < wr.heap.size := Nat.lt_of_lt_of_le hq1 HB.out.size
        clear hrl hal hl hc1
        go_wp2_with fail
        go_quiet (fail)
        obtain ⟨nq0, rfl⟩ : ∃ nq0, nq0 = nq := ⟨_, rfl⟩
        go_wp2_with fail
        go_quiet (fail)
        go_wp2
        go_loopw [6, 79] (fun v jv wr => ∃ j : Nat, jv = .int .i64 j ∧ j ≤ l.length ∧ Aside0 (∃ steps ws, SM wr w.heap.size mb bx v steps ∧ SrI d label steps ws i j ∧ steps[i]? = some s ∧ ws[i]? = some u) ∧ Aside0 (Below w.heap.size w wr)) (fun _ jv _ => l.length - (intOf jv).toNat)
        case atStart =>
          have hb5 : Below wr.heap.size wr ((wr.drewN nq0).drewN nq) := pw_below_drewN (pw_below_drewN (Below.refl _ _) _) _
          exact ⟨0, rfl, by omega, ⟨steps, ws, HM.out.later hb5, HI.out, HSI2.out.1, HSI2.out.2⟩, ⟨pw_below_drewN (pw_below_drewN HB.out _) _⟩⟩
        case round =>
          obtain ⟨j, rfl, hj, HQ2, HB2'⟩ := hrel
          obtain ⟨steps2, ws2, hM2, hI2, hss, hus⟩ := HQ2.out
          have hsl2 := srI_len hI2
          obtain ⟨As2, cs2, rfl⟩ := Kd.R_slice hM2.st
          by_cases hjl : j < l.length
          · obtain ⟨b5, o5, e, hb5, hx0, hx1, hx2⟩ := at_arc (Kd.C_below HRL.out HB2'.out) j hjl
            cases e
            have haj : (d.arc s.at_)[j]? = some (l.getD j default) := by rw [HAL.out, List.getD_eq_getElem?_getD, List.getElem?_eq_getElem hjl]; rfl
            have hstp := stp_arc (HOK.out.arc_ok s.at_) (List.mem_of_getElem? haj)
            have hab := okA_bounds (HOK.out.arc_ok s.at_) _ (List.mem_of_getElem? haj)
            obtain ⟨a, ha⟩ : ∃ a, a = l.getD j default := ⟨_, rfl⟩
            rw [← ha] at hx0 hx1 hx2 haj hstp hab
            obtain ⟨_, _, _, _, g0, g1⟩ := hab
            have hkey := keyI_of (k := a.to) (WalkArith.wf_i64 (by have := HOK.out.lim; omega))
            have HKEY2 := Aside0.mk hkey
            have hbx5 : Below wr.heap.size wr (wr.alloc (.cells #[.int .i32 a.lo, .int .i32 a.hi, .int .i64 a.to] 54)) := below_alloc (Below.refl _ _) _
            have hM5 := hM2.later hbx5
            have hlk := hM5.map.look Tryd.underlying78 hkey
            have HM5 := Aside0.mk hM5
            have HI2 := Aside0.mk hI2
            have HSU := Aside0.mk (And.intro hss hus)
            have HAJ := Aside0.mk haj
            have HSTP := Aside0.mk hstp
            have hj1 : (j : Int) < (l.length : Int) := by omega
            have hbw5 := HB2'.out.size
            clear ha hkey hbx5 hM2 hM5 hI2 hss hus haj hstp HQ2
            rw [HMBE.out] at hlk
            by_cases hin2 : a.to ∈ steps2.map Stp.at_
            · rw [decide_eq_true hin2] at hlk
              have HN := Aside0.mk (srI_seen HI2.out HOK.out HSU.out.1 HSU.out.2 HAJ.out hin2)
              clear hin2
              go_wp2
              go_roundw
              case rel => exact ⟨j + 1, by go_num, by omega, ⟨steps2, ws2, HM5.out, HN.out, HSU.out.1, HSU.out.2⟩, ⟨HB2'.out.alloc hbw5 _⟩⟩
              case measure => simp [intOf]; omega
            · rw [decide_eq_false hin2] at hlk
              have HN := Aside0.mk (srI_new HI2.out HOK.out HSU.out.1 HSU.out.2 HAJ.out hin2 HSTP.out)
              have HNI := Aside0.mk hin2
              have HMM := Aside0.mk (show MapB (wr.alloc (.cells #[.int .i32 a.lo, .int .i32 a.hi, .int .i64 a.to] 54)) (w1.heap.size + 1) steps2.length (steps2.map Stp.at_) from by rw [← HMBE.out]; exact HM5.out.map)
              have hn5 : steps2.length < 1000000 := by have := HOK.out.lim; omega
              have HSUL := Aside0.mk (And.intro (List.getElem?_eq_some_iff.1 HSU.out.1).1 (List.getElem?_eq_some_iff.1 HSU.out.2).1)
              have hs3 : steps2.length ≤ 3000 := by have := HOK.out.lim; omega
              clear hin2
              go_wp2_with (first
                | (at_mapUpdate; refine wpList_newB rfl _ _ _ 78 (.inl rfl) Tryd.underlying78 rfl HMM.out hn5 _ a.to rfl HKEY2.out HNI.out rfl ?_; intro w5 hm5 hg5; have hst5 := row_mapB HM5.out.st (fun hq => HMM.out.ne_cells hq) hg5; have hbx5 := (hg5.block _ (box_lt HM5.out.box) (fun e => (HMM.out.ne_cells HM5.out.box) (by injection e))).trans HM5.out.box; have zh5 := (hg5.block wr.heap.size (by simp) (fun e => (HMM.out.ne_cells (heap_alloc_new wr _)) (by injection e))).trans (heap_alloc_new wr _); obtain ⟨z0, z1, z2⟩ := three_cells2 zh5; have HM6 := Aside0.mk hm5; have HG6 := Aside0.mk hg5; have HST5 := Aside0.mk hst5; have HBX5 := Aside0.mk hbx5; clear hm5 hg5 hst5 hbx5 zh5)
                | (at_builtin; refine Kd.R_append kSt (w0 := w5) w.heap.size rfl _ _ 77 76 (.agg #[.int .i64 0, .int .i32 0, .int .i64 0]) 24 rfl Tryd.underlying77 infoSt rfl (by decide) (by decide) (.slice As2 steps2.length cs2) steps2 ⟨(i : Int), a.lo, a.to⟩ [.int .i64 i, .int .i32 a.lo, .int .i64 a.to] (fun _ => True) (fun _ => False) rfl (by first | (go_simp; done) | (go_simp; rfl)) (kSt_mkM _ _ _ _) (fun _ hk => hk.elim) (fun _ _ => trivial) ?aO ?aB ?aS ?aL ?_; (case aO => exact HST5.out); (case aB => exact Below.refl _ _); (case aS => have := HG6.out.size; simp at this; omega); (case aL => omega); intro v1 w6 hR hB hg hat; have HR6 := Aside0.mk hR; have HG7 := Aside0.mk hg; clear hR hB hg hat))
              go_roundw
              case rel =>
                refine ⟨j + 1, by go_num, by omega, ⟨_, _, ⟨?_, HR6.out, ?_⟩, HN.out, ?_, ?_⟩, ⟨?_⟩⟩
                · rw [HG7.out.block _ (box_lt HBX5.out) (Kd.R_ne HST5.out HBX5.out (by decide))]
                  exact HBX5.out
                · have hm := HM6.out.kept HG7.out (fun e => by
                    obtain ⟨cells, hc⟩ := Kd.R_typed HST5.out _ e.symm
                    exact HM6.out.ne_cells hc rfl)
                  rw [HMBE.out, List.map_append, List.length_append]
                  exact hm
                · rw [List.getElem?_append_left HSUL.out.1]; exact HSU.out.1
                · rw [List.getElem?_append_left HSUL.out.2]; exact HSU.out.2
                · refine ((HB2'.out.alloc hbw5 _).grown HG6.out (by simp; omega) (fun q hq => by injection hq with hq; omega)).grown HG7.out (by have := HG6.out.size; simp at this; omega) (Kd.R_base HST5.out)
              case measure => simp [intOf]; omega
          · obtain rfl : j = l.length := by omega
            have HN := Aside0.mk (srI_next hss (by rw [HAL.out]; exact hI2) HNL.out)
            have HM6 := Aside0.mk hM2
            clear hM2 hI2 hss hus HQ2
            go_wp2
            go_roundw
            case rel => exact ⟨i + 1, by go_num, by omega, ⟨_, _, HM6.out, HN.out⟩, HB2'⟩
            case measure => simp [intOf]; omega
    · have hie : i = steps.length := by have := hI.i_le; omega
      subst hie
      have HF := Aside0.mk (srI_none HLN.out hI)
      have hlt2 : ¬ ((steps.length : Int) < (steps.length : Int)) := by omega
      clear hI hM HQ
      go_wp2
      go_ret2
      exact ⟨.inr ⟨HF.out, rfl⟩, HB.out⟩
end Go.Proofs.YthohahcpdgebbaaDoor.Wk
