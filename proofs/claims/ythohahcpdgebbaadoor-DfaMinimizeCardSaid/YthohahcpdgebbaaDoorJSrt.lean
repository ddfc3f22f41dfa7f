/- Proved: what a part of the given program (its deterministic automata, and the functions that they call) computes, and laws on that, under the conditions that each theorem names. -/
import Derived.Test.YthohahcpdgebbaaDoorJNum
import Derived.Sort.LotA
import Derived.Sort.Grow
import Derived.Sort.LotD1
import Derived.Sort.OwnSorted
import Derived.CellFam
import Derived.BigGuard
import Derived.BigCall
import Derived.Lib.SliceRun
import Derived.Lib.SlicesCompact
namespace Go.Proofs.YthohahcpdgebbaaDoor.Wk
open Go.RowKit Go.Sort Go.Proofs.YthohahcpdgebbaaDoorW.PrintWords Go.Proofs.YthohahcpdgebbaaDoorW.PrintLast Go.Proofs.YthohahcpdgebbaaDoorW.PrintMore
set_option linter.unusedVariables false
set_option linter.unusedSimpArgs false
theorem isNaN32 (x : Int) (w : World) : Calls Tryd.prog 116 #[.int .i32 x] w fun e w' => e = .returned (.bool false) ∧ w' = w := by
  go_enter Tryd.func116, Tryd.ntmps116
  go_wp2
  go_ret
  exact ⟨by simp, rfl⟩
theorem Less32 (x y : Int) (w : World) : Calls Tryd.prog 102 #[.int .i32 x, .int .i32 y] w fun e w' => e = .returned (.bool (Go.Sort.ltInt x y)) ∧ w' = w := by
  go_enter Tryd.func102, Tryd.ntmps102
  go_wp2_with (go_at_call 116; refine (isNaN32 _ _).mono ?_; rintro e w' ⟨rfl, rfl⟩)
  go_ret
  exact ⟨rfl, rfl⟩
section
variable {α : Type} [Inhabited α] (lt : α → α → Bool)
theorem insInner_go (a j : Nat) (d : Array α) (hj : a < j) (hl : lt d[j]! d[j - 1]! = true) : insInner lt a j d = insInner lt a (j - 1) (swp d j (j - 1)) := by
  obtain ⟨k, rfl⟩ : ∃ k, j = k + 1 := ⟨j - 1, by omega⟩
  rw [insInner]
  simp only [Nat.add_sub_cancel] at hl ⊢
  simp [hj, hl]
theorem insInner_stop (a j : Nat) (d : Array α) (h : j ≤ a ∨ lt d[j]! d[j - 1]! = false) : insInner lt a j d = d := by
  cases j with
  | zero => rw [insInner]
  | succ k =>
    rw [insInner]
    simp only [Nat.add_sub_cancel] at h
    rcases h with h | h
    · simp [show ¬ k + 1 > a by omega]
    · simp [h]
theorem insOuter_go (a b i : Nat) (d : Array α) (h : i < b) : insOuter lt a b i d = insOuter lt a b (i + 1) (insInner lt a i d) := by rw [insOuter, if_pos h]
theorem insOuter_stop (a b i : Nat) (d : Array α) (h : ¬ i < b) : insOuter lt a b i d = d := by rw [insOuter, if_neg h]
end
section
variable {α : Type} [Inhabited α] (enc : α → Value)
theorem putRow_drewN (w : World) (m q blk off : Nat) (d : Array α) : (putRow enc (Sort.ahead w m) blk off d).drewN q = putRow enc (Sort.ahead w (m + q)) blk off d := by
  show Sort.ahead (putRow enc (Sort.ahead w m) blk off d) q = _
  rw [putRow_ahead enc w m, ahead_ahead, ← putRow_ahead]
theorem swap_worldA (w : World) (m q blk off : Nat) (d : Array α) (j k : Nat) (hj : j < d.size) (hk : k < d.size) :
    (((putRow enc (Sort.ahead w m) blk off d).drewN q).setCell ⟨blk, off + j, none⟩ (enc d[k]!)).setCell ⟨blk, off + k, none⟩ (enc d[j]!) = putRow enc (Sort.ahead w (m + q)) blk off (swp d j k) := by
  rw [putRow_drewN]
  exact putRow_swp enc _ blk off d j k hj hk
end
theorem insertionSort32 (blk off cap a b : Nat) (d : Array Int) (w : World) (hH : Holds (Value.int .i32) w blk off d) (hab : a ≤ b) (hb : b ≤ d.size) (hsz : d.size < 4611686018427387904) :
    Calls Tryd.prog 96 #[.slice (some ⟨blk, off, none⟩) d.size cap, .int .i64 a, .int .i64 b] w fun e w' =>
      e = .returned (.tuple #[]) ∧ ∃ n, w' = putRow (Value.int .i32) (Sort.ahead w n) blk off (Sort.insertionSort ltInt d a b) := by
  go_enter Tryd.func96, Tryd.ntmps96
  go_wp2
  go_loopw [6] (fun vi wr => ∃ (i n : Nat) (dk : Array Int), vi = .int .i64 i ∧ a < i ∧ i ≤ b + 1 ∧ dk.size = d.size ∧ wr = putRow (Value.int .i32) (Sort.ahead w n) blk off dk ∧
      insOuter ltInt a b i dk = insOuter ltInt a b (a + 1) d) (fun vi _ => b + 1 - (intOf vi).toNat)
  case atStart => exact ⟨a + 1, 0, d, by go_num, by omega, by omega, rfl, (putRow_self _ _ _ _ _ hH).symm, rfl⟩
  case round =>
    obtain ⟨i, n, dk, rfl, hai, hib, hsk, hwr, hO⟩ := hrel
    have HO : Hid (insOuter ltInt a b i dk = insOuter ltInt a b (a + 1) d) := hO
    clear hO
    go_wp2
    ·
      go_loopw [7] (fun vj wr2 => ∃ (j m : Nat) (dj : Array Int), vj = .int .i64 j ∧ a ≤ j ∧ j ≤ i ∧ dj.size = d.size ∧ wr2 = putRow (Value.int .i32) (Sort.ahead w m) blk off dj ∧
          insInner ltInt a j dj = insInner ltInt a i dk) (fun vj _ => (intOf vj).toNat)
      case atStart => exact ⟨i, n, dk, rfl, by omega, Nat.le_refl _, hsk, rfl, rfl⟩
      case round =>
        obtain ⟨j, m, dj, rfl, haj, hji, hsj, hw2, hI⟩ := hrel
        have hlt : i < b := by assumption
        obtain ⟨G, hG⟩ : ∃ G : Nat → Int, ∀ t, G t = dj[t]! := ⟨fun t => dj[t]!, fun _ => rfl⟩
        have hcw : ∀ t, t < d.size → wr.cell? ⟨blk, off + t, none⟩ = some (.int .i32 (G t)) := fun t ht => by
          rw [hw2, hG]; exact cell?_putRow _ _ _ _ d dj (holds_ahead _ _ _ _ _ _ hH) hsj t (by omega)
        have hfw : ∀ t, t < d.size → wr.frozen? ⟨blk, off + t, none⟩ = false := fun t ht => by
          rw [hw2, frozen?_putRow]; exact ((holds_ahead _ _ m _ _ _ hH) t ht).2
        have HW : Hid (wr = putRow (Value.int .i32) (Sort.ahead w m) blk off dj) := hw2
        have HG : Hid (∀ t, G t = dj[t]!) := hG
        have HI : Hid (insInner ltInt a j dj = insInner ltInt a i dk) := hI
        clear hw2 hG hI hH
        have out : (j ≤ a ∨ ltInt dj[j]! dj[j - 1]! = false) → ∀ q, ∃ i' n' dk', Value.int .i64 ((i : Int) + 1) = .int .i64 (i' : Nat) ∧ a < i' ∧ i' ≤ b + 1 ∧ dk'.size = d.size ∧
            wr.drewN q = putRow (Value.int .i32) (Sort.ahead w n') blk off dk' ∧ insOuter ltInt a b i' dk' = insOuter ltInt a b (a + 1) d := fun hs q =>
          ⟨i + 1, m + q, dj, by go_num, by omega, by omega, hsj, by rw [HW.out]; exact putRow_drewN _ _ _ _ _ _ _,
            by rw [← HO.out, insOuter_go _ _ _ _ _ hlt, ← HI.out, insInner_stop _ _ _ _ hs]⟩
        have OUT : Hid _ := out
        clear out
        go_wp2
        by_cases hja : a < j
        · go_quiet (first | (go_at_call 102; refine Calls.quiet_of_same (Less32 _ _ _)))
          go_wp2
          ·
            have hl : ltInt (G j) (G (j - 1)) = true := by assumption
            go_region
            all_goals go_wp2
            go_roundw
            case rel =>
              refine ⟨j - 1, m + (nq + 1), swp dj j (j - 1), by congr 1; omega, by omega, by omega, by rw [size_swp]; exact hsj, ?_, ?_⟩
              · rw [HW.out, HG.out, HG.out]
                exact swap_worldA _ w m (nq + 1) blk off dj j (j - 1) (by omega) (by omega)
              · rw [← HI.out, insInner_go ltInt a j dj hja (by rw [← HG.out, ← HG.out]; exact hl)]
            case measure => simp [intOf]; omega
          ·
            have hl : ltInt (G j) (G (j - 1)) = false := by assumption
            go_roundw
            case rel => exact OUT.out (Or.inr (by rw [← HG.out, ← HG.out]; exact hl)) nq
            case measure => simp [intOf]; omega
        · go_quiet (first | (go_at_call 102; refine Calls.quiet_of_same (Less32 _ _ _)))
          go_wp2
          go_roundw
          case rel => exact OUT.out (Or.inl (by omega)) nq
          case measure => simp [intOf]; omega
    ·
      have hge : ¬ i < b := by assumption
      go_end0
      exact ⟨rfl, n, by unfold Sort.insertionSort; rw [← HO.out, insOuter_stop _ _ _ _ _ hge]⟩
theorem insertionSort32_nil (p : Option Addr) (cap : Nat) (w : World) :
    Calls Tryd.prog 96 #[.slice p 0 cap, .int .i64 0, .int .i64 0] w fun e w' => e = .returned (.tuple #[]) ∧ w' = w := by
  go_enter Tryd.func96, Tryd.ntmps96
  go_wp2
  refine wp_loop_rounds 1 ?_
  rw [rounds_succ]
  go_wp2
  go_end0
  exact ⟨rfl, rfl⟩
set_option maxRecDepth 100000 in
theorem pdqsort32_nil (p : Option Addr) (cap : Nat) (w : World) :
    Calls Tryd.prog 89 #[.slice p 0 cap, .int .i64 0, .int .i64 0, .int .i64 0] w fun e w' => e = .returned (.tuple #[]) ∧ w' = w := by
  go_enter Tryd.func89, Tryd.ntmps89
  go_wp2
  refine wp_loop_rounds 1 ?_
  rw [rounds_succ]
  go_wp2_with (first | (go_at_call 96; refine (insertionSort32_nil p cap _).mono ?_; rintro e w' ⟨rfl, rfl⟩))
  refine bodyPost_ret (results_none rfl _ _ _) rfl ?_
  exact ⟨rfl, rfl⟩
set_option maxRecDepth 100000 in
theorem Sort32_nil (p : Option Addr) (cap : Nat) (w : World) :
    Calls Tryd.prog 67 #[.slice p 0 cap] w fun e w' => e = .returned (.tuple #[]) ∧ w' = w := by
  have hLen : ∀ w, Calls Tryd.prog 90 #[.int .u64 0] w fun e w' => e = .returned (.int .i64 0) ∧ w' = w := fun w => Tryd.bits_Len 0 w (by omega) (by omega)
  go_enter Tryd.func67, Tryd.ntmps67
  go_wp2_with (first
    | (go_at_call 90; refine (hLen _).mono ?_; rintro e w' ⟨rfl, rfl⟩)
    | (go_at_call 89; refine (pdqsort32_nil p cap _).mono ?_; rintro e w' ⟨rfl, rfl⟩))
  go_end0
  exact ⟨rfl, rfl⟩
section
open Go.ChangeShapes Go.WideShapes
theorem holds_of_block32 {w : World} {g : Nat} {cur : Array Value} {e : TypeId} {ss : List Int} (hb : w.heap[g]? = some (.cells cur e (0, 0))) (ht : cur.toList.take ss.length = ss.map (Value.int .i32)) : Holds (Value.int .i32) w g 0 ss.toArray := by
  intro j hj
  have hj' : j < ss.length := by simpa using hj
  refine ⟨?_, by simp [World.frozen?, hb]⟩
  have h1 : (cur.toList.take ss.length)[j]? = (ss.map (Value.int .i32))[j]? := by rw [ht]
  rw [List.getElem?_take_of_lt hj'] at h1
  simp only [World.cell?, hb, Nat.zero_add]
  simp only [Option.isSome_none, Bool.false_eq_true, if_false]
  rw [← Array.getElem?_toList, h1]
  simp [hj']
theorem heap_sorted32 {w : World} {g n : Nat} {os : Array Obj} {cur : Array Value} {e : TypeId} {fr : Nat × Nat} (d : Array Int) (hb : w.heap[g]? = some (.cells cur e fr)) :
    (grow (putRow (Value.int .i32) (Sort.ahead w n) g 0 d) os).heap[g]? = some (.cells (putCells (Value.int .i32) 0 d cur) e fr) := by
  have hg : g < w.heap.size := (Array.getElem?_eq_some_iff.1 hb).1
  rw [heap_grow_old _ _ (by simpa using hg)]
  simp [putRow, mapBlock, Sort.ahead, Array.getElem?_modify, hb, onCells]
theorem grownBy_sorted32 {w : World} {g n : Nat} {os : Array Obj} (d : Array Int) : w.grownBy (grow (putRow (Value.int .i32) (Sort.ahead w n) g 0 d) os) (some g) := by
  refine ⟨rfl, rfl, rfl, by simp, fun k hk hne => ?_⟩
  rw [heap_grow_old _ _ (by simpa using hk)]
  have : g ≠ k := fun e => hne (by rw [e])
  simp [putRow, mapBlock, Sort.ahead, Array.getElem?_modify, this]
theorem take_putCells32 (cur : Array Value) (ts : List Int) (h : ts.length ≤ cur.size) : (putCells (Value.int .i32) 0 ts.toArray cur).toList.take ts.length = ts.map (Value.int .i32) := by
  apply List.ext_getElem?
  intro j
  by_cases hj : j < ts.length
  · rw [List.getElem?_take_of_lt hj, Array.getElem?_toList]
    simp [putCells, hj, show j < cur.size by omega]
  · rw [List.getElem?_take_eq_none (by omega), List.getElem?_eq_none (by simp; omega)]
theorem ownsRow_sorted32 {w : World} {base g cap n : Nat} {e : TypeId} {os : Array Obj} {cur : Array Value} {ss ts : List Int} (hl : ts.length = ss.length) (hbase : base ≤ g) (hb : w.heap[g]? = some (.cells cur e (0, 0)))
    (h1 : ss.length ≤ cap) (h2 : cap ≤ maxLen) (h3 : cur.size = cap * 1) :
    (grow (putRow (Value.int .i32) (Sort.ahead w n) g 0 ts.toArray) os).ownsRow base e 1 (.slice (some ⟨g, 0, none⟩) ss.length cap) ss.length (ts.map (Value.int .i32)) :=
  ⟨by simp [hl], .inr ⟨g, cap, _, rfl, hbase, heap_sorted32 _ hb, h1, h2, by simp [putCells, h3], by rw [Nat.mul_one, ← hl]; exact take_putCells32 cur ts (by omega)⟩⟩
end
section
open Go.Lib hiding intOf
theorem store_world_int {w wr : World} {n blk off : Nat} {dk : Array Int} {i : Nat} (hi : i < dk.size) (hwr : wr = putRow (Value.int .i32) (Sort.ahead w n) blk off dk) (x : Int) :
    (wr.setCell ⟨blk, off + i, none⟩ ((Value.int .i32) x)).drew = putRow (Value.int .i32) (Sort.ahead w (n + 1)) blk off (dk.setIfInBounds i x) := by
  subst hwr
  rw [putRow_set (Value.int .i32) _ blk off dk i x hi, ← ahead_drew]
  rfl
set_option maxHeartbeats 4000000 in
set_option maxRecDepth 1000000 in
theorem compact32_arr (blk off cap : Nat) (d : Array Int) (w : World) (hH : Holds (Value.int .i32) w blk off d) (hsz : d.size ≤ 9223372036854775807) (hcap : d.size ≤ cap) :
    Calls Tryd.prog 68 #[.slice (some ⟨blk, off, none⟩) d.size cap] w fun e w' => e = .returned (.slice (some ⟨blk, off, none⟩) (Go.Lib.compactUpTo d d.size).length cap) ∧ ∃ q, w' = putRow (Value.int .i32) (Sort.ahead w q) blk off (Go.Lib.compactUpTo d d.size ++ List.replicate (d.size - (Go.Lib.compactUpTo d d.size).length) 0).toArray := by
  have same : ∀ q, (∀ j, j < d.size → keeps d j = true) → (Go.Lib.compactUpTo d d.size).length = d.size ∧ w.drewN q = putRow (Value.int .i32) (Sort.ahead w q) blk off (Go.Lib.compactUpTo d d.size ++ List.replicate (d.size - (Go.Lib.compactUpTo d d.size).length) 0).toArray := by
    intro q hall
    have e : Go.Lib.compactUpTo d d.size = d.toList := by rw [compactUpTo_all d _ hall, range_map_get]
    rw [e]
    refine ⟨by simp, ?_⟩
    simp only [Array.length_toList, Nat.sub_self, List.replicate_zero, List.append_nil, Array.toArray_toList]
    exact (putRow_self (Value.int .i32) (Sort.ahead w q) blk off d (holds_ahead (Value.int .i32) w q blk off d hH)).symm
  have HS : Aside (∀ q, (∀ j, j < d.size → keeps d j = true) → (Go.Lib.compactUpTo d d.size).length = d.size ∧ w.drewN q = putRow (Value.int .i32) (Sort.ahead w q) blk off (Go.Lib.compactUpTo d d.size ++ List.replicate (d.size - (Go.Lib.compactUpTo d d.size).length) 0).toArray) := same
  clear same
  by_cases h2 : d.size < 2
  · have HH : Aside (Holds (Value.int .i32) w blk off d) := hH
    clear hH
    go_enter Tryd.func68, Tryd.ntmps68
    go_wp2
    go_ret
    obtain ⟨e1, e2⟩ := HS.out 0 (fun j hj => keeps_lt_one d j (by omega))
    exact ⟨by rw [e1]; rfl, 0, e2⟩
  · go_enter Tryd.func68, Tryd.ntmps68
    go_wp2
    go_loopg [3] d.size (fun g s3 wr => ∃ k q : Nat, 1 ≤ k ∧ k ≤ d.size ∧ d.size - k ≤ g ∧ s3 = .int .i64 k ∧ wr = w.drewN q ∧ ∀ j, j < k → keeps d j = true)
    case atStart => exact ⟨1, 0, Nat.le_refl _, by omega, by omega, rfl, rfl, keeps_lt_one d⟩
    case round =>
      obtain ⟨k, q, hk1, hk, hg, rfl, rfl, hall⟩ := hrel
      by_cases hlt : k < d.size
      · obtain ⟨c1, f1⟩ := hH k hlt
        obtain ⟨c0, f0⟩ := hH (k - 1) (by omega)
        have A : Aside (∀ j, j < k → keeps d j = true) := hall
        have HH : Aside (Holds (Value.int .i32) w blk off d) := hH
        clear hall hH
        generalize hx : d[k]! = x at c1
        generalize hy : d[k - 1]! = y at c0
        have B : Aside (d[k]! = x ∧ d[k - 1]! = y) := ⟨hx, hy⟩
        clear hx hy
        by_cases hdup : x = y
        · subst hdup
          go_wp2_with fail
          go_region
          go_wp2
          clear c0 c1 f0 f1
          go_loopg [3, 5] d.size (fun g s3 s5 wr => ∃ (kk k2 q2 : Nat) (dk : Array Int), s3 = .int .i64 kk ∧ s5 = .int .i64 k2 ∧ 1 ≤ k2 ∧ k + k2 ≤ d.size ∧ d.size - (k + k2) ≤ g ∧ wr = putRow (Value.int .i32) (Sort.ahead w q2) blk off dk ∧ CompInv d (k + k2) kk dk)
          case atStart => exact ⟨k, 1, q + 1, d, rfl, rfl, Nat.le_refl _, by omega, by omega, (putRow_self (Value.int .i32) (Sort.ahead w (q + 1)) blk off d (holds_ahead (Value.int .i32) w (q + 1) blk off d HH.out)).symm, CompInv.start A.out (keeps_neg (by omega) (by rw [B.out.1, B.out.2]))⟩
          case round =>
            obtain ⟨kk, k2, q2, dk, rfl, rfl, h1, hle, hg2, hwr, hI⟩ := hrel
            have hkk := hI.lt
            have hds := hI.size
            have hHk : Holds (Value.int .i32) wr blk off dk := by rw [hwr]; exact holds_putRow (Value.int .i32) _ blk off d dk (holds_ahead (Value.int .i32) w q2 blk off d HH.out) hds
            have W2 : Aside (wr = putRow (Value.int .i32) (Sort.ahead w q2) blk off dk) := hwr
            have I2 : Aside (CompInv d (k + k2) kk dk) := hI
            clear hwr
            by_cases hlt2 : k + k2 < d.size
            · obtain ⟨cm, _⟩ := hHk (k + k2) (by omega)
              obtain ⟨cp, _⟩ := hHk (k + k2 - 1) (by omega)
              obtain ⟨ck, fk⟩ := hHk kk (by omega)
              rw [hI.high (k + k2) (by omega), show off + (k + k2) = off + k + k2 by omega] at cm
              rw [hI.high (k + k2 - 1) (by omega), show off + (k + k2 - 1) = off + k + (k2 - 1) by omega] at cp
              clear hHk hI
              generalize hu : d[k + k2]! = u at cm
              generalize hv : d[k + k2 - 1]! = v at cp
              generalize dk[kk]! = old at ck
              have C : Aside (d[k + k2]! = u ∧ d[k + k2 - 1]! = v) := ⟨hu, hv⟩
              clear hu hv
              by_cases huv : u = v
              · subst huv
                go_wp2_with fail
                go_region
                go_wp2
                go_roundg (d.size - (k + (k2 + 1)))
                case measure => omega
                case rel => exact ⟨kk, k2 + 1, q2 + 1, dk, rfl, by go_num, by omega, by omega, Nat.le_refl _, by rw [W2.out]; rfl, I2.out.skip (keeps_neg (by omega) (by rw [C.out.1, C.out.2]))⟩
              · go_wp2_with fail
                go_region
                go_wp2
                go_roundg (d.size - (k + (k2 + 1)))
                case measure => omega
                case rel => exact ⟨kk + 1, k2 + 1, q2 + 1, dk.setIfInBounds kk u, by go_num, by go_num, by omega, by omega, Nat.le_refl _, store_world_int (by omega) W2.out u, by have := I2.out.keep hlt2 (keeps_pos (by rw [C.out.1, C.out.2]; exact huv)); rwa [C.out.1] at this⟩
            · have hend : k + k2 = d.size := by omega
              have hcl : ∀ ty, (Builtin.clear_ #[48] ty #[.slice (some ⟨blk, off + kk, none⟩) (d.size - kk) (cap - kk)]).run Tryd.prog wr = .ok (.tuple #[]) (wr.setCells blk (off + kk) (List.replicate (d.size - kk) ((Value.int .i32) 0))) :=
                fun ty => Lib.run_clear_slice wr _ _ ty _ Tryd.underlying48 (Tryd.zeroValue21) rfl rfl blk (off + kk) _ _ (by omega) (fun j hj => by rw [show off + kk + j = off + (kk + j) by omega, (hHk (kk + j) (by omega)).1]; rfl) (fun j hj => by rw [show off + kk + j = off + (kk + j) by omega]; exact (hHk (kk + j) (by omega)).2)
              clear hHk hI
              go_wp2
              go_ret
              have hI := I2.out
              rw [hend] at hI
              refine ⟨by rw [hI.len]; rfl, q2, ?_⟩
              rw [hI.len, ← hI.done 0, ← putRow_setCells (Value.int .i32) _ blk off _ dk kk (by simp; omega), ← W2.out, List.map_replicate]
        · go_wp2_with fail
          go_region
          go_wp2
          go_roundg (d.size - (k + 1))
          case measure => omega
          case rel =>
            refine ⟨k + 1, q + 1, by omega, by omega, Nat.le_refl _, by go_num, rfl, fun j hj => ?_⟩
            by_cases e : j = k
            · subst e
              exact keeps_pos (by rw [B.out.1, B.out.2]; exact hdup)
            · exact A.out j (by omega)
      · have : k = d.size := by omega
        subst this
        have HH : Aside (Holds (Value.int .i32) w blk off d) := hH
        clear hH
        go_wp2
        go_ret
        obtain ⟨e1, e2⟩ := HS.out q hall
        exact ⟨by rw [e1]; rfl, q, e2⟩
set_option maxHeartbeats 1000000 in
theorem compact32_empty (a : Option Addr) (cap : Nat) (w : World) :
    Calls Tryd.prog 68 #[.slice a 0 cap] w fun e w' => e = .returned (.slice a 0 cap) ∧ w' = w := by
  go_enter Tryd.func68, Tryd.ntmps68
  go_wp2
  go_ret
  exact ⟨rfl, rfl⟩
end
theorem pdqsort32_small (blk off cap limit : Nat) (d : Array Int) (w : World) (hH : Holds (Value.int .i32) w blk off d) (h12 : d.size ≤ 12) :
    Calls Tryd.prog 89 #[.slice (some ⟨blk, off, none⟩) d.size cap, .int .i64 0, .int .i64 d.size, .int .i64 limit] w fun e w' => e = .returned (.tuple #[]) ∧ ∃ n, w' = putRow (Value.int .i32) (Sort.ahead w n) blk off (Go.Sort.insertionSort ltInt d 0 d.size) := by
  have HH := Aside0.mk hH
  clear hH
  have hz : (d.size : Int) ≤ 12 := by omega
  go_enter Tryd.func89, Tryd.ntmps89
  go_wp2
  refine wp_loop_rounds 1 ?_
  rw [rounds_succ]
  go_wp2_with (first | (go_at_call 96; refine (insertionSort32 blk off cap 0 d.size d _ (by exact HH.out) (Nat.zero_le _) (Nat.le_refl _) (by omega)).mono ?_; rintro e w' ⟨rfl, n, rfl⟩))
  refine bodyPost_ret (results_none rfl _ _ _) rfl ?_
  exact ⟨rfl, n, rfl⟩
set_option maxRecDepth 100000 in
theorem Sort32_arr (blk off cap : Nat) (d : Array Int) (w : World) (hH : Holds (Value.int .i32) w blk off d) (h12 : d.size ≤ 12) :
    Calls Tryd.prog 67 #[.slice (some ⟨blk, off, none⟩) d.size cap] w fun e w' => e = .returned (.tuple #[]) ∧ ∃ n, w' = putRow (Value.int .i32) (Sort.ahead w n) blk off (Go.Sort.insertionSort ltInt d 0 d.size) := by
  have HH := Aside0.mk hH
  clear hH
  have hLen : ∀ w, Calls Tryd.prog 90 #[.int .u64 (d.size : Int)] w fun e w' => e = .returned (.int .i64 (Lib.bitLen d.size : Nat)) ∧ w' = w := fun w => by
    have h := Tryd.bits_Len (d.size : Int) w (by omega) (by omega)
    rwa [Int.toNat_natCast] at h
  go_enter Tryd.func67, Tryd.ntmps67
  go_wp2_with (first
    | (go_at_call 90; refine (hLen _).mono ?_; rintro e w' ⟨rfl, rfl⟩)
    | (go_at_call 89; refine (pdqsort32_small blk off cap (Lib.bitLen d.size) d _ (by exact HH.out) h12).mono ?_; rintro e w' ⟨rfl, n, rfl⟩))
  go_end0
  exact ⟨rfl, n, rfl⟩
theorem sort32_calls {xs : List Int} (h12 : xs.length ≤ 12) {w : World} {base : Nat} {ok : Nat → Prop} {A : Option Addr} {c : Nat} (hR : (Kd.int .i32).R 21 w base ok (.slice A xs.length c) xs) :
    Calls Tryd.prog 67 #[.slice A xs.length c] w fun e w' => e = .returned (.tuple #[]) ∧ ∃ ys : List Int, ys.Perm xs ∧ ys.Pairwise (· ≤ ·) ∧ (Kd.int .i32).R 21 w' base ok (.slice A ys.length c) ys ∧ w.grownBy w' (Value.slice A xs.length c).ownBlock := by
  cases hx : xs with
  | nil =>
    refine (Sort32_nil A c w).mono ?_
    rintro e w' ⟨rfl, rfl⟩
    subst hx
    exact ⟨rfl, [], List.Perm.refl _, List.Pairwise.nil, hR, ⟨rfl, rfl, rfl, Nat.le_refl _, fun _ _ _ => rfl⟩⟩
  | cons x0 xs0 =>
    rw [← hx]
    have hown := Kd.own_of_R hR
    obtain ⟨g, cap, e, hg0, hg1, _⟩ := Kd.R_form hR (by rw [hx]; simp)
    cases e
    rcases hown.2 with ⟨h0, _⟩ | ⟨g', cap', cur, hv, hg, hb, hn, hcap, hcs, htk⟩
    · cases h0
    cases hv
    have hsz : xs.toArray.size = xs.length := by simp
    have htk2 : cur.toList.take xs.length = xs.map (Value.int .i32) := by
      rw [Nat.mul_one] at htk
      rw [htk]
      simp [encs]
    have hH := holds_of_block32 hb htk2
    have hS := Sort32_arr g 0 c xs.toArray w hH (by simpa using h12)
    rw [hsz] at hS
    refine hS.mono ?_
    rintro e w' ⟨rfl, n, rfl⟩
    obtain ⟨hP, hSo⟩ := insertionSort_holds swo_ltInt xs.toArray 0 xs.length (Nat.zero_le _) (by simp)
    obtain ⟨ys, hys⟩ : ∃ ys : List Int, ys = (Go.Sort.insertionSort ltInt xs.toArray 0 xs.length).toList := ⟨_, rfl⟩
    have hya : Go.Sort.insertionSort ltInt xs.toArray 0 xs.length = ys.toArray := by rw [hys]
    rw [hya] at hP hSo ⊢
    have hyl : ys.length = xs.length := by simpa using hP.1
    have hperm : ys.Perm xs := by
      have h2 := hP.2.2
      have hta : List.take xs.length ys = ys := List.take_of_length_le (by omega)
      simpa [hta] using h2
    refine ⟨rfl, ys, hperm, ?_, ?_, ?_⟩
    · rw [List.pairwise_iff_getElem]
      intro i j hi hj hij
      have := hSo i j (Nat.zero_le _) hij (by omega)
      simp [ltInt, hi, hj] at this
      exact this
    · have h1 := ownsRow_sorted32 (os := #[]) (n := n) hyl hg hb hn hcap hcs
      have e0 : ∀ W : World, grow W #[] = W := fun W => by cases W; simp [grow]
      rw [e0] at h1
      rw [hyl]
      exact Kd.R_of_own (enc := Value.int .i32) (xs := ys) (by rw [hyl]; simpa [encs] using h1) (fun k hk => hR.1 k hk)
    · have h1 := grownBy_sorted32 (w := w) (g := g) (n := n) (os := #[]) ys.toArray
      have e0 : ∀ W : World, grow W #[] = W := fun W => by cases W; simp [grow]
      rw [e0] at h1
      exact h1
theorem compactUp_spec {d : Array Int} (hs : ∀ i j, i < j → j < d.size → d[i]! ≤ d[j]!) : ∀ m, m ≤ d.size → (Go.Lib.compactUpTo d m).Pairwise (· < ·) ∧ (∀ x, x ∈ Go.Lib.compactUpTo d m ↔ ∃ j, j < m ∧ d[j]! = x)
  | 0, _ => ⟨by simp [Go.Lib.compactUpTo], fun x => by simp [Go.Lib.compactUpTo]⟩
  | m + 1, h => by
    obtain ⟨h1, h2⟩ := compactUp_spec hs m (by omega)
    rw [Go.Lib.compactUpTo_succ]
    by_cases hk : Go.Lib.keeps d m = true
    · rw [if_pos hk]
      refine ⟨?_, fun x => ?_⟩
      · rw [List.pairwise_append]
        refine ⟨h1, by simp, fun a ha b hb => ?_⟩
        rw [List.mem_singleton.1 hb]
        obtain ⟨j, hj, rfl⟩ := (h2 a).1 ha
        have hm : m = 0 ∨ d[m]! ≠ d[m - 1]! := by simpa [Go.Lib.keeps] using hk
        rcases hm with hm | hm
        · omega
        · have e1 : d[j]! ≤ d[m - 1]! := by
            rcases Nat.lt_or_ge j (m - 1) with h | h
            · exact hs j (m - 1) h (by omega)
            · obtain rfl : j = m - 1 := by omega
              exact Int.le_refl _
          have e2 := hs (m - 1) m (by omega) (by omega)
          omega
      · rw [List.mem_append, h2, List.mem_singleton]
        constructor
        · rintro (⟨j, hj, rfl⟩ | rfl)
          · exact ⟨j, by omega, rfl⟩
          · exact ⟨m, by omega, rfl⟩
        · rintro ⟨j, hj, rfl⟩
          rcases Nat.lt_or_ge j m with h | h
          · exact .inl ⟨j, h, rfl⟩
          · obtain rfl : j = m := by omega
            exact .inr rfl
    · rw [if_neg hk, List.append_nil]
      refine ⟨h1, fun x => ?_⟩
      rw [h2]
      have hm : ¬ (m = 0 ∨ d[m]! ≠ d[m - 1]!) := by simpa [Go.Lib.keeps] using hk
      constructor
      · rintro ⟨j, hj, rfl⟩
        exact ⟨j, by omega, rfl⟩
      · rintro ⟨j, hj, rfl⟩
        rcases Nat.lt_or_ge j m with h | h
        · exact ⟨j, h, rfl⟩
        · obtain rfl : j = m := by omega
          refine ⟨j - 1, by omega, ?_⟩
          rcases Classical.em (d[j]! = d[j - 1]!) with e | e
          · exact e.symm
          · exact absurd (.inr e) hm
theorem compact32_calls {xs : List Int} (hs : xs.Pairwise (· ≤ ·)) {w : World} {base : Nat} {ok : Nat → Prop} {A : Option Addr} {c : Nat} (hR : (Kd.int .i32).R 21 w base ok (.slice A xs.length c) xs) :
    Calls Tryd.prog 68 #[.slice A xs.length c] w fun e w' => ∃ ys : List Int, e = .returned (.slice A ys.length c) ∧ ys.length ≤ xs.length ∧ ys.Pairwise (· < ·) ∧ (∀ x, x ∈ ys ↔ x ∈ xs) ∧ (Kd.int .i32).R 21 w' base ok (.slice A ys.length c) ys ∧ w.grownBy w' (Value.slice A xs.length c).ownBlock := by
  cases hx : xs with
  | nil =>
    refine (compact32_empty A c w).mono ?_
    rintro e w' ⟨rfl, rfl⟩
    subst hx
    exact ⟨[], rfl, Nat.le_refl _, List.Pairwise.nil, fun x => Iff.rfl, hR, ⟨rfl, rfl, rfl, Nat.le_refl _, fun _ _ _ => rfl⟩⟩
  | cons x0 xs0 =>
    rw [← hx]
    have hown := Kd.own_of_R hR
    have hC := Kd.R_reads' hR
    obtain ⟨g, cap, e, hg0, hg1, _⟩ := Kd.R_form hR (by rw [hx]; simp)
    cases e
    rcases hown.2 with ⟨h0, _⟩ | ⟨g', cap', cur, hv, hg, hb, hn, hcap, hcs, htk⟩
    · cases h0
    cases hv
    have hsz : xs.toArray.size = xs.length := by simp
    have htk2 : cur.toList.take xs.length = xs.map (Value.int .i32) := by
      rw [Nat.mul_one] at htk
      rw [htk]
      simp [encs]
    have hH := holds_of_block32 hb htk2
    have hS := compact32_arr g 0 c xs.toArray w hH (by rw [hsz]; exact hC.2.2.2.1) (by rw [hsz]; exact hn)
    rw [hsz] at hS
    refine hS.mono ?_
    rintro e w' ⟨rfl, n, rfl⟩
    have hsp := compactUp_spec (d := xs.toArray) (fun i j hij hj => by
      have hj' : j < xs.length := by simpa using hj
      have := List.pairwise_iff_getElem.1 hs i j (by omega) hj' hij
      simpa [hj', show i < xs.length by omega] using this) xs.length (by simp)
    obtain ⟨ys, hys⟩ : ∃ ys : List Int, ys = Go.Lib.compactUpTo xs.toArray xs.length := ⟨_, rfl⟩
    have hyl : ys.length ≤ xs.length := by
      rw [hys]
      unfold Go.Lib.compactUpTo
      rw [List.length_map]
      exact Nat.le_trans (List.length_filter_le _ _) (by simp)
    rw [← hys] at hsp ⊢
    obtain ⟨zs, hzs⟩ : ∃ zs : List Int, zs = ys ++ List.replicate (xs.length - ys.length) 0 := ⟨_, rfl⟩
    have hzl : zs.length = xs.length := by rw [hzs]; simp; omega
    rw [← hzs]
    refine ⟨ys, rfl, hyl, hsp.1, fun x => ?_, ?_, ?_⟩
    · rw [hsp.2]
      constructor
      · rintro ⟨j, hj, rfl⟩
        simp [hj]
      · intro h
        obtain ⟨j, hj, rfl⟩ := List.mem_iff_getElem.1 h
        exact ⟨j, hj, by simp [hj]⟩
    · have h1 := ownsRow_sorted32 (os := #[]) (n := n) hzl hg hb hn hcap hcs
      have e0 : ∀ W : World, grow W #[] = W := fun W => by cases W; simp [grow]
      rw [e0] at h1
      have h2 : (Kd.int .i32).R 21 (putRow (Value.int .i32) (Sort.ahead w n) g 0 zs.toArray) base ok (.slice (some ⟨g, 0, none⟩) zs.length c) zs :=
        Kd.R_of_own (enc := Value.int .i32) (xs := zs) (by rw [hzl]; simpa [encs] using h1) (fun k hk => hR.1 k hk)
      have h3 := Kd.R_take h2 (m := ys.length) (by omega)
      rwa [show zs.take ys.length = ys by rw [hzs]; simp] at h3
    · have h1 := grownBy_sorted32 (w := w) (g := g) (n := n) (os := #[]) zs.toArray
      have e0 : ∀ W : World, grow W #[] = W := fun W => by cases W; simp [grow]
      rw [e0] at h1
      exact h1
end Go.Proofs.YthohahcpdgebbaaDoor.Wk
