/- Proved: what a part of the given program (its deterministic automata, and the functions that they call) computes, and laws on that, under the conditions that each theorem names. -/
import Derived.Test.YthohahcpdgebbaaDoorJCheckD
import Derived.Test.YthohahcpdgebbaaDoorJP
import Derived.Laws.BitsLemmas
namespace Go.Proofs.YthohahcpdgebbaaDoor.Wk
open Go.RowKit Go.Proofs.YthohahcpdgebbaaDoorW.PrintWords Go.Proofs.YthohahcpdgebbaaDoorW.PrintLast Go.Proofs.YthohahcpdgebbaaDoorW.PrintMore
open Go.Proofs.YthohahcpdgebbaaDoor.Th Go.Proofs.YthohahcpdgebbaaDoor.Pbegin
set_option linter.unusedVariables false
set_option linter.unusedSimpArgs false
structure DS where
  out : List Int
  v : Int
  m : Int
  lo : Int
  hi : Int
  st : Int
def bgn (b : Int) : Int × Int × Int × Int :=
  let c : Int × Int := if 194 ≤ b ∧ b ≤ 223 then (b - 192, 1) else if 224 ≤ b ∧ b ≤ 239 then (b - 224, 2) else if 240 ≤ b ∧ b ≤ 244 then (b - 240, 3) else (0, 0)
  (c.1, c.2, (if b = 224 then 160 else if b = 240 then 144 else 128), (if b = 237 then 159 else if b = 244 then 143 else 191))
def dstep (s : DS) (i b : Int) : DS :=
  if 0 < s.m ∧ s.lo ≤ b ∧ b ≤ s.hi then
    ⟨if s.m = 1 then s.out ++ [s.v * 64 + b % 64] else s.out, s.v * 64 + b % 64, s.m - 1, 128, 191, s.st⟩
  else
    let o := if 0 < s.m then s.out ++ [65533] else s.out
    ⟨if b < 128 then o ++ [b] else if (bgn b).2.1 = 0 then o ++ [65533] else o, (bgn b).1, (bgn b).2.1, (bgn b).2.2.1, (bgn b).2.2.2, i⟩
def dst (s : ByteArray) : Nat → DS
  | 0 => ⟨[], 0, 0, 0, 0, 0⟩
  | i + 1 => dstep (dst s i) i (bt s i)
theorem put4_ok {w W : World} {g : Nat} {t : TypeId} {a b c d : Value} (a' b' c' d' : Value) (h : W.heap[g]? = some (.cells #[a, b, c, d] t (0, 0))) (W' : World)
    (hW : W' = (((W.setCell ⟨g, 0, none⟩ a').setCell ⟨g, 1, none⟩ b').setCell ⟨g, 2, none⟩ c').setCell ⟨g, 3, none⟩ d') :
    W'.heap[g]? = some (.cells #[a', b', c', d'] t (0, 0)) ∧ (∀ {α : Type} {k : Kd α} {e base : Nat} {ok : Nat → Prop} {v : Value} {xs : List α}, k.R e W base ok v xs → (∀ j, ok j → j ≠ g) → k.R e W' base ok v xs) ∧
      (Below w.heap.size w W → w.heap.size ≤ g → Below w.heap.size w W') := by
  subst hW
  refine ⟨?_, ?_, ?_⟩
  · have h1 := blk_put (cs := #[a, b, c, d]) h 0 a' rfl
    have h2 := blk_put h1 1 b' rfl
    have h3 := blk_put h2 2 c' rfl
    exact blk_put h3 3 d' rfl
  · intro α k e base ok v xs hR hok
    exact Kd.R_far (Kd.R_far (Kd.R_far (Kd.R_far hR (p := ⟨g, 0, none⟩) hok _) (p := ⟨g, 1, none⟩) hok _) (p := ⟨g, 2, none⟩) hok _) (p := ⟨g, 3, none⟩) hok _
  · intro hb hg
    exact below_set (below_set (below_set (below_set hb hg) hg) hg) hg
structure DSok (D : DS) : Prop where
  m0 : 0 ≤ D.m
  m1 : D.m ≤ 3
  v0 : 0 ≤ D.v
  v3 : D.m = 3 → D.v ≤ 7
  v2 : D.m = 2 → D.v ≤ 511
  v1 : D.m = 1 → D.v ≤ 32767
  st0 : 0 ≤ D.st
theorem bgn_ok (b : Int) (h0 : 0 ≤ b) (h1 : b ≤ 255) : 0 ≤ (bgn b).2.1 ∧ (bgn b).2.1 ≤ 3 ∧ 0 ≤ (bgn b).1 ∧ ((bgn b).2.1 = 3 → (bgn b).1 ≤ 7) ∧ ((bgn b).2.1 = 2 → (bgn b).1 ≤ 511) ∧ ((bgn b).2.1 = 1 → (bgn b).1 ≤ 32767) := by
  unfold bgn
  simp only
  repeat' split
  all_goals (simp only; omega)
theorem dstep_ok {D : DS} (h : DSok D) (i b : Int) (hi : 0 ≤ i) (h0 : 0 ≤ b) (h1 : b ≤ 255) : DSok (dstep D i b) := by
  obtain ⟨a1, a2, a3, a4, a5, a6, a7⟩ := h
  unfold dstep
  split
  · exact ⟨by simp only; omega, by simp only; omega, by simp only; omega, fun h => by simp only at h ⊢; omega, fun h => by simp only at h ⊢; omega, fun h => by simp only at h ⊢; omega, a7⟩
  · obtain ⟨b1, b2, b3, b4, b5, b6⟩ := bgn_ok b h0 h1
    exact ⟨b1, b2, b3, b4, b5, b6, hi⟩
theorem dst_ok (s : ByteArray) : ∀ k : Nat, DSok (dst s k)
  | 0 => ⟨by simp [dst], by simp [dst], by simp [dst], fun h => by simp [dst] at h, fun h => by simp [dst] at h, fun h => by simp [dst] at h, by simp [dst]⟩
  | k + 1 => dstep_ok (dst_ok s k) _ _ (by omega) (bt_range s k).1 (bt_range s k).2
theorem dst_len (s : ByteArray) : ∀ k : Nat, (dst s k).out.length ≤ 2 * k
  | 0 => by simp [dst]
  | k + 1 => by
    have ih := dst_len s k
    have h1 : (if 0 < (dst s k).m then (dst s k).out ++ [65533] else (dst s k).out).length ≤ 2 * k + 1 := by
      split
      · rw [List.length_append, List.length_singleton]; omega
      · omega
    show (dstep (dst s k) k (bt s k)).out.length ≤ _
    unfold dstep
    split
    · show (if _ then _ else _ : List Int).length ≤ _
      split
      · rw [List.length_append, List.length_singleton]; omega
      · omega
    · show (if _ then _ else if _ then _ else _ : List Int).length ≤ _
      split
      · rw [List.length_append, List.length_singleton]; omega
      · split
        · rw [List.length_append, List.length_singleton]; omega
        · omega
def restOf (s : ByteArray) : ByteArray := if (dst s s.size).m = 0 then ⟨#[]⟩ else s.extract (dst s s.size).st.toNat s.size
theorem dst_st (s : ByteArray) : ∀ k : Nat, (dst s k).st ≤ k
  | 0 => by simp [dst]
  | k + 1 => by
    have ih := dst_st s k
    show (dstep (dst s k) k (bt s k)).st ≤ _
    unfold dstep
    split
    · show (dst s k).st ≤ _
      omega
    · show (k : Int) ≤ _
      omega
theorem begin_is (b : Int) (h0 : 0 ≤ b) (h1 : b ≤ 255) : ∃ k, utf8stream_begin.f k b = some (bgn b) := by
  have e31 := u8_and31 b h0 (by omega)
  have e15 := u8_and15 b h0 (by omega)
  have e7 := u8_and7 b h0 (by omega)
  have w31 : wrap32 (b % 32) = b % 32 := by unfold wrap32; omega
  have w15 : wrap32 (b % 16) = b % 16 := by unfold wrap32; omega
  have w7 : wrap32 (b % 8) = b % 8 := by unfold wrap32; omega
  have j2 : ∀ k a x y z, utf8stream_begin.j2 (k + 1) b a x y z = some (a, x, (if b = 224 then 160 else if b = 240 then 144 else y), (if b = 237 then 159 else if b = 244 then 143 else z)) := by
    intro k a x y z
    unfold utf8stream_begin.j2
    repeat' split
    all_goals first | rfl | omega
  have hj1 : ∀ k (t : Bool) a x y z, utf8stream_begin.j1 (k + 1) b t a x y z = if t = true then utf8stream_begin.j2 k b (wrap32 (Go.bits .and .u8 b 15)) 2 y z else (if b ≥ 240 then (if b ≤ 244 then (utf8stream_begin.j2 k b (wrap32 (Go.bits .and .u8 b 7)) 3 y z) else (utf8stream_begin.j2 k b a x y z)) else (utf8stream_begin.j2 k b a x y z)) := fun k t a x y z => by rw [utf8stream_begin.j1]
  have hj0 : ∀ k (t : Bool) a x y z, utf8stream_begin.j0 (k + 1) b t a x y z = if t = true then utf8stream_begin.j2 k b (wrap32 (Go.bits .and .u8 b 31)) 1 y z else (if b ≥ 224 then (utf8stream_begin.j1 k b (decide (b ≤ 239)) a x y z) else (utf8stream_begin.j1 k b false a x y z)) := fun k t a x y z => by rw [utf8stream_begin.j0]
  refine ⟨3 + 1, ?_⟩
  unfold utf8stream_begin.f bgn
  by_cases h194 : 194 ≤ b
  · rw [if_pos h194]
    by_cases h223 : b ≤ 223
    · rw [decide_eq_true h223, if_pos (show 194 ≤ b ∧ b ≤ 223 from ⟨h194, h223⟩), hj0, if_pos rfl, j2, e31, w31]
      simp only [Option.some.injEq, Prod.mk.injEq, and_true]
      omega
    · rw [decide_eq_false h223, if_neg (show ¬ (194 ≤ b ∧ b ≤ 223) from fun h => h223 h.2), hj0, if_neg Bool.false_ne_true, if_pos (show b ≥ 224 by omega)]
      by_cases h239 : b ≤ 239
      · rw [decide_eq_true h239, if_pos (show 224 ≤ b ∧ b ≤ 239 from ⟨by omega, h239⟩), hj1, if_pos rfl, j2, e15, w15]
        simp only [Option.some.injEq, Prod.mk.injEq, and_true]
        omega
      · rw [decide_eq_false h239, if_neg (show ¬ (224 ≤ b ∧ b ≤ 239) from fun h => h239 h.2), hj1, if_neg Bool.false_ne_true, if_pos (show b ≥ 240 by omega)]
        by_cases h244 : b ≤ 244
        · rw [if_pos h244, if_pos (show 240 ≤ b ∧ b ≤ 244 from ⟨by omega, h244⟩), j2, e7, w7]
          simp only [Option.some.injEq, Prod.mk.injEq, and_true]
          omega
        · rw [if_neg h244, if_neg (show ¬ (240 ≤ b ∧ b ≤ 244) from fun h => h244 h.2), j2]
  · rw [if_neg (show ¬ b ≥ 194 from h194), if_neg (show ¬ (194 ≤ b ∧ b ≤ 223) from fun h => h194 h.1), hj0, if_neg Bool.false_ne_true, if_neg (show ¬ b ≥ 224 by omega), if_neg (show ¬ (224 ≤ b ∧ b ≤ 239) by omega), if_neg (show ¬ (240 ≤ b ∧ b ≤ 244) by omega), hj1, if_neg Bool.false_ne_true, if_neg (show ¬ b ≥ 240 by omega), j2]
set_option maxHeartbeats 4000000 in
set_option maxRecDepth 100000 in
theorem decode_calls (s : ByteArray) (hs : s.size ≤ 4294967296) (w : World) :
    Calls Tryd.prog 55 #[.string ⟨#[]⟩, .string s] w fun e w' => ∃ v, e = .returned (.tuple #[v, .string (restOf s)]) ∧
      (Kd.int .i32).R 21 w' w.heap.size (fun _ => True) v (dst s s.size).out ∧ Below w.heap.size w w' := by
  have hs2 : s.size ≤ 9223372036854775807 := by omega
  have hcat : ({ data := #[] } : ByteArray) ++ s = s := by ext1; simp
  go_enter Tryd.func55, Tryd.ntmps55
  go_wp2
  go_loopg [7, 9, 17] s.size (fun g ov sv iv wr => ∃ k : Nat, k + g = s.size ∧ iv = .int .i64 k ∧ sv = .int .i64 (dst s k).st ∧ Aside0 (wr.heap[w.heap.size]? = some (.cells #[.int .i32 (dst s k).v, .int .i64 (dst s k).m, .int .u8 (dst s k).lo, .int .u8 (dst s k).hi] 124 (0, 0))) ∧
    Aside0 ((Kd.int .i32).R 21 wr w.heap.size (fun j => j ≠ w.heap.size) ov (dst s k).out) ∧ Aside0 (Below w.heap.size w wr))
  case atStart => exact ⟨0, by omega, rfl, rfl, ⟨heap_alloc_new _ _⟩, ⟨Kd.R_nil _ _ _ _ _⟩, ⟨below_alloc (Below.refl _ _) _⟩⟩
  case round =>
    obtain ⟨k, hk, rfl, rfl, HX, HO, HB⟩ := hrel
    have x0 := cell_of_row wr w.heap.size 0 _ _ _ HX.out
    have x1 := cell_of_row wr w.heap.size 1 _ _ _ HX.out
    have x2 := cell_of_row wr w.heap.size 2 _ _ _ HX.out
    have x3 := cell_of_row wr w.heap.size 3 _ _ _ HX.out
    have y0 : wr.frozen? ⟨w.heap.size, 0, none⟩ = false := blk_frozen HX.out _
    have y1 : wr.frozen? ⟨w.heap.size, 1, none⟩ = false := blk_frozen HX.out _
    have y2 : wr.frozen? ⟨w.heap.size, 2, none⟩ = false := blk_frozen HX.out _
    have y3 : wr.frozen? ⟨w.heap.size, 3, none⟩ = false := blk_frozen HX.out _
    simp at x0 x1 x2 x3
    by_cases hlt : k < s.size
    · obtain ⟨b, hb⟩ : ∃ b : Int, b = bt s k := ⟨_, rfl⟩
      have hbt : ∀ h : k < s.size, ((s[k]'h).toNat : Int) = b := fun h => by rw [hb]; exact bt_at s (k : Int) h
      have hbr := bt_range s k
      rw [← hb] at hbr
      obtain ⟨hb0, hb1⟩ := hbr
      obtain ⟨a1, a2, a3, a4, a5, a6, a7⟩ := dst_ok s k
      obtain ⟨⟨o, v, m, lo, hi, st⟩, hD⟩ : ∃ D, D = dst s k := ⟨_, rfl⟩
      rw [← hD] at x0 x1 x2 x3 HX HO a1 a2 a3 a4 a5 a6 a7
      have HD := Aside0.mk hD
      have HBB := Aside0.mk hb
      have HOL := Aside0.mk (show o.length ≤ 2 * k from by have := dst_len s k; rw [← hD] at this; exact this)
      clear hb hD
      simp only at x0 x1 x2 x3 HX HO a1 a2 a3 a4 a5 a6 a7
      have HSZ := Aside0.mk (show w.heap.size < wr.heap.size from (Array.getElem?_eq_some_iff.1 HX.out).1)
      go_upto_region 9 with (fail)
      go_cut [37] (fun v wc => ∃ bb : Bool, v = .bool bb ∧ Aside0 (bb = decide (0 < m ∧ lo ≤ b ∧ b ≤ hi)) ∧ Aside0 (wr = wc))
      case first =>
        by_cases c1 : 0 < m
        · have c1b : decide (0 < m) = true := decide_eq_true c1
          by_cases c2 : lo ≤ b
          · have c2b : decide (lo ≤ b) = true := decide_eq_true c2
            by_cases c3 : b ≤ hi
            · have c3b : decide (b ≤ hi) = true := decide_eq_true c3
              have HV := Aside0.mk (show true = decide (0 < m ∧ lo ≤ b ∧ b ≤ hi) from (decide_eq_true ⟨c1, c2, c3⟩).symm)
              go_wp2
              go_meet
              case rel => exact ⟨true, rfl, HV, ⟨rfl⟩⟩
            · have c3b : decide (b ≤ hi) = false := decide_eq_false c3
              have HV := Aside0.mk (show false = decide (0 < m ∧ lo ≤ b ∧ b ≤ hi) from (decide_eq_false (fun h => c3 h.2.2)).symm)
              go_wp2
              go_meet
              case rel => exact ⟨false, rfl, HV, ⟨rfl⟩⟩
          · have c2b : decide (lo ≤ b) = false := decide_eq_false c2
            have HV := Aside0.mk (show false = decide (0 < m ∧ lo ≤ b ∧ b ≤ hi) from (decide_eq_false (fun h => c2 h.2.1)).symm)
            go_wp2
            go_meet
            case rel => exact ⟨false, rfl, HV, ⟨rfl⟩⟩
        · have c1b : decide (0 < m) = false := decide_eq_false c1
          have HV := Aside0.mk (show false = decide (0 < m ∧ lo ≤ b ∧ b ≤ hi) from (decide_eq_false (fun h => c1 h.1)).symm)
          go_wp2
          go_meet
          case rel => exact ⟨false, rfl, HV, ⟨rfl⟩⟩
      case rest =>
        obtain ⟨bb, rfl, HV, HW⟩ := hcut
        obtain rfl := HW.out
        clear HW
        cases bb
        · have HN := Aside0.mk (show ¬ (0 < m ∧ lo ≤ b ∧ b ≤ hi) from of_decide_eq_false HV.out.symm)
          obtain ⟨kb, hkb⟩ := begin_is b hb0 (by omega)
          obtain ⟨q, hq⟩ : ∃ q, q = bgn b := ⟨_, rfl⟩
          obtain ⟨q1, q2, q3, q4⟩ := q
          rw [← hq] at hkb
          have HQ := Aside0.mk hq
          have HKB := Aside0.mk hkb
          clear hq hkb HV
          by_cases c1 : 0 < m
          · have c1b : decide (0 < m) = true := decide_eq_true c1
            have C1 := Aside0.mk c1
            go_wp2_with (at_builtin; refine Kd.R_append (Kd.int .i32) (w0 := w) w.heap.size rfl _ _ 48 21 (.int .i32 0) 4 rfl Tryd.underlying48 infoRune rfl (by decide) (by omega) u7 o (65533) [.int .i32 (65533)] (fun j => j ≠ w.heap.size) (fun _ => False) rfl (by first | (go_simp; done) | (go_simp; rfl)) rfl (fun _ hk => hk.elim) (fun j hj => by have := HB.out.size; have := HSZ.out; omega) ?aO ?aB ?aS ?aL ?_; (case aO => exact HO.out); (case aB => exact HB.out); (case aS => have := HB.out.size; omega); (case aL => have := HOL.out; omega); intro v2 w2 hR hB hg hat)
            have HX2 := Aside0.mk ((hg.block w.heap.size HSZ.out (by have := Kd.R_ne HO.out HX.out (by decide); exact this)).trans HX.out)
            have HO2 := Aside0.mk hR
            have HB2 := Aside0.mk hB
            have HSZ2 := Aside0.mk (show w.heap.size < w2.heap.size from (Array.getElem?_eq_some_iff.1 HX2.out).1)
            clear HSZ
            have HSZ := HSZ2
            have HOL2 := Aside0.mk (show (o ++ [65533]).length ≤ 2 * k + 1 from by have := HOL.out; simp; omega)
            clear HOL
            have HOL := HOL2
            clear hR hB hg hat x0 x1 x2 x3 y0 y1 y2 y3
            go_wp2_with fail
            refine (utf8stream_begin.calls kb b q1 q2 q3 q4 _ HKB.out).mono ?_
            rintro e w3 ⟨rfl, hb3⟩
            have HX3 := Aside0.mk ((hb3.block w.heap.size (by have := HB2.out.size; have := HSZ.out; omega)).trans HX2.out)
            have HO3 := Aside0.mk (Kd.R_below HO2.out hb3)
            have HB3 := Aside0.mk (below_then HB2.out HB2.out.size hb3)
            have HSZ3 := Aside0.mk (show w.heap.size < w3.heap.size from (Array.getElem?_eq_some_iff.1 HX3.out).1)
            clear HSZ
            have HSZ := HSZ3
            clear hb3
            have y0 : w3.frozen? ⟨w.heap.size, 0, none⟩ = false := blk_frozen HX3.out _
            have y1 : w3.frozen? ⟨w.heap.size, 1, none⟩ = false := blk_frozen HX3.out _
            have y2 : w3.frozen? ⟨w.heap.size, 2, none⟩ = false := blk_frozen HX3.out _
            have y3 : w3.frozen? ⟨w.heap.size, 3, none⟩ = false := blk_frozen HX3.out _
            have z0 := cell_of_row w3 w.heap.size 0 _ _ _ HX3.out
            have z1 := cell_of_row w3 w.heap.size 1 _ _ _ HX3.out
            have z2 := cell_of_row w3 w.heap.size 2 _ _ _ HX3.out
            have z3 := cell_of_row w3 w.heap.size 3 _ _ _ HX3.out
            simp at z0 z1 z2 z3
            go_upto_block 2 with (fail)
            generalize hW : (((w3.setCell ⟨w.heap.size, 0, none⟩ (.int .i32 q1)).setCell ⟨w.heap.size, 1, none⟩ (.int .i64 q2)).setCell ⟨w.heap.size, 2, none⟩ (.int .u8 q3)).setCell ⟨w.heap.size, 3, none⟩ (.int .u8 q4) = w4
            obtain ⟨p1, p2, p3⟩ := put4_ok (w := w) (.int .i32 q1) (.int .i64 q2) (.int .u8 q3) (.int .u8 q4) HX3.out w4 hW.symm
            have HX4 := Aside0.mk p1
            have HO4 := Aside0.mk (p2 HO3.out (fun _ h => h))
            have HB4 := Aside0.mk (p3 HB3.out (Nat.le_refl _))
            have HSZ4 := Aside0.mk (show w.heap.size < w4.heap.size from (Array.getElem?_eq_some_iff.1 HX4.out).1)
            clear HSZ
            have HSZ := HSZ4
            clear hW p1 p2 p3 z0 z1 z2 z3 y0 y1 y2 y3
            have z1 := cell_of_row w4 w.heap.size 1 _ _ _ HX4.out
            simp at z1
            by_cases d1 : b < 128
            · have d1b : decide (b < 128) = true := decide_eq_true d1
              have D1 := Aside0.mk d1
              go_wp2_with (at_builtin; refine Kd.R_append (Kd.int .i32) (w0 := w) w.heap.size rfl _ _ 48 21 (.int .i32 0) 4 rfl Tryd.underlying48 infoRune rfl (by decide) (by omega) v2 (o ++ [65533]) (b) [.int .i32 (b)] (fun j => j ≠ w.heap.size) (fun _ => False) rfl (by first | (go_simp; done) | (go_simp; rfl)) rfl (fun _ hk => hk.elim) (fun j hj => by have := HB4.out.size; have := HSZ.out; omega) ?aO ?aB ?aS ?aL ?_; (case aO => exact HO4.out); (case aB => exact HB4.out); (case aS => have := HB4.out.size; omega); (case aL => have := HOL.out; omega); intro v5 w5 hR hB hg hat)
              have HX5 := Aside0.mk ((hg.block w.heap.size HSZ.out (by have := Kd.R_ne HO4.out HX4.out (by decide); exact this)).trans HX4.out)
              go_roundg (s.size - (k + 1))
              case measure => omega
              case rel =>
                have e : dst s (k + 1) = dstep (dst s k) k (bt s k) := rfl
                rw [← HD.out, ← HBB.out] at e
                have e2 : dst s (k + 1) = ⟨(o ++ [65533]) ++ [b], q1, q2, q3, q4, k⟩ := by rw [e]; unfold dstep; rw [if_neg HN.out, ← HQ.out]; simp only; rw [if_pos (show 0 < m from C1.out), if_pos (show b < 128 from D1.out)]
                exact ⟨k + 1, by omega, by go_num, by rw [e2], ⟨by rw [e2]; exact HX5.out⟩, ⟨by rw [e2]; exact hR⟩, ⟨hB⟩⟩
            · have d1b : decide (b < 128) = false := decide_eq_false d1
              have D1 := Aside0.mk d1
              by_cases d2 : q2 = 0
              · have d2b : (q2 == 0) = true := beq_iff_eq.2 d2
                have D2 := Aside0.mk d2
                clear d2
                go_wp2_with (at_builtin; refine Kd.R_append (Kd.int .i32) (w0 := w) w.heap.size rfl _ _ 48 21 (.int .i32 0) 4 rfl Tryd.underlying48 infoRune rfl (by decide) (by omega) v2 (o ++ [65533]) (65533) [.int .i32 (65533)] (fun j => j ≠ w.heap.size) (fun _ => False) rfl (by first | (go_simp; done) | (go_simp; rfl)) rfl (fun _ hk => hk.elim) (fun j hj => by have := HB4.out.size; have := HSZ.out; omega) ?aO ?aB ?aS ?aL ?_; (case aO => exact HO4.out); (case aB => exact HB4.out); (case aS => have := HB4.out.size; omega); (case aL => have := HOL.out; omega); intro v5 w5 hR hB hg hat)
                have HX5 := Aside0.mk ((hg.block w.heap.size HSZ.out (by have := Kd.R_ne HO4.out HX4.out (by decide); exact this)).trans HX4.out)
                go_roundg (s.size - (k + 1))
                case measure => omega
                case rel =>
                  have e : dst s (k + 1) = dstep (dst s k) k (bt s k) := rfl
                  rw [← HD.out, ← HBB.out] at e
                  have e2 : dst s (k + 1) = ⟨(o ++ [65533]) ++ [65533], q1, q2, q3, q4, k⟩ := by rw [e]; unfold dstep; rw [if_neg HN.out, ← HQ.out]; simp only; rw [if_pos (show 0 < m from C1.out), if_neg (show ¬ b < 128 by have := D1.out; omega), if_pos (show q2 = 0 from D2.out)]
                  exact ⟨k + 1, by omega, by go_num, by rw [e2], ⟨by rw [e2]; exact HX5.out⟩, ⟨by rw [e2]; exact hR⟩, ⟨hB⟩⟩
              · have d2b : (q2 == 0) = false := beq_eq_false_iff_ne.2 d2
                have D2 := Aside0.mk d2
                go_wp2
                go_roundg (s.size - (k + 1))
                case measure => omega
                case rel =>
                  have e : dst s (k + 1) = dstep (dst s k) k (bt s k) := rfl
                  rw [← HD.out, ← HBB.out] at e
                  have e2 : dst s (k + 1) = ⟨(o ++ [65533]), q1, q2, q3, q4, k⟩ := by rw [e]; unfold dstep; rw [if_neg HN.out, ← HQ.out]; simp only; rw [if_pos (show 0 < m from C1.out), if_neg (show ¬ b < 128 by have := D1.out; omega), if_neg (show ¬ q2 = 0 from D2.out)]
                  exact ⟨k + 1, by omega, by go_num, by rw [e2], ⟨by rw [e2]; exact HX4.out⟩, ⟨by rw [e2]; exact HO4.out⟩, ⟨HB4.out⟩⟩
          · have c1b : decide (0 < m) = false := decide_eq_false c1
            have C1 := Aside0.mk c1
            go_wp2_with fail
            refine (utf8stream_begin.calls kb b q1 q2 q3 q4 _ HKB.out).mono ?_
            rintro e w3 ⟨rfl, hb3⟩
            have HX3 := Aside0.mk ((hb3.block w.heap.size (by have := HB.out.size; have := HSZ.out; omega)).trans HX.out)
            have HO3 := Aside0.mk (Kd.R_below HO.out hb3)
            have HB3 := Aside0.mk (below_then HB.out HB.out.size hb3)
            have HSZ3 := Aside0.mk (show w.heap.size < w3.heap.size from (Array.getElem?_eq_some_iff.1 HX3.out).1)
            clear HSZ
            have HSZ := HSZ3
            clear hb3
            clear x0 x2 x3 y0 y1 y2 y3
            have y0 : w3.frozen? ⟨w.heap.size, 0, none⟩ = false := blk_frozen HX3.out _
            have y1 : w3.frozen? ⟨w.heap.size, 1, none⟩ = false := blk_frozen HX3.out _
            have y2 : w3.frozen? ⟨w.heap.size, 2, none⟩ = false := blk_frozen HX3.out _
            have y3 : w3.frozen? ⟨w.heap.size, 3, none⟩ = false := blk_frozen HX3.out _
            have z0 := cell_of_row w3 w.heap.size 0 _ _ _ HX3.out
            have z1 := cell_of_row w3 w.heap.size 1 _ _ _ HX3.out
            have z2 := cell_of_row w3 w.heap.size 2 _ _ _ HX3.out
            have z3 := cell_of_row w3 w.heap.size 3 _ _ _ HX3.out
            simp at z0 z1 z2 z3
            go_upto_block 2 with (fail)
            generalize hW : (((w3.setCell ⟨w.heap.size, 0, none⟩ (.int .i32 q1)).setCell ⟨w.heap.size, 1, none⟩ (.int .i64 q2)).setCell ⟨w.heap.size, 2, none⟩ (.int .u8 q3)).setCell ⟨w.heap.size, 3, none⟩ (.int .u8 q4) = w4
            obtain ⟨p1, p2, p3⟩ := put4_ok (w := w) (.int .i32 q1) (.int .i64 q2) (.int .u8 q3) (.int .u8 q4) HX3.out w4 hW.symm
            have HX4 := Aside0.mk p1
            have HO4 := Aside0.mk (p2 HO3.out (fun _ h => h))
            have HB4 := Aside0.mk (p3 HB3.out (Nat.le_refl _))
            have HSZ4 := Aside0.mk (show w.heap.size < w4.heap.size from (Array.getElem?_eq_some_iff.1 HX4.out).1)
            clear HSZ
            have HSZ := HSZ4
            clear hW p1 p2 p3 z0 z1 z2 z3 y0 y1 y2 y3
            have z1 := cell_of_row w4 w.heap.size 1 _ _ _ HX4.out
            simp at z1
            by_cases d1 : b < 128
            · have d1b : decide (b < 128) = true := decide_eq_true d1
              have D1 := Aside0.mk d1
              go_wp2_with (at_builtin; refine Kd.R_append (Kd.int .i32) (w0 := w) w.heap.size rfl _ _ 48 21 (.int .i32 0) 4 rfl Tryd.underlying48 infoRune rfl (by decide) (by omega) u7 o (b) [.int .i32 (b)] (fun j => j ≠ w.heap.size) (fun _ => False) rfl (by first | (go_simp; done) | (go_simp; rfl)) rfl (fun _ hk => hk.elim) (fun j hj => by have := HB4.out.size; have := HSZ.out; omega) ?aO ?aB ?aS ?aL ?_; (case aO => exact HO4.out); (case aB => exact HB4.out); (case aS => have := HB4.out.size; omega); (case aL => have := HOL.out; omega); intro v5 w5 hR hB hg hat)
              have HX5 := Aside0.mk ((hg.block w.heap.size HSZ.out (by have := Kd.R_ne HO4.out HX4.out (by decide); exact this)).trans HX4.out)
              go_roundg (s.size - (k + 1))
              case measure => omega
              case rel =>
                have e : dst s (k + 1) = dstep (dst s k) k (bt s k) := rfl
                rw [← HD.out, ← HBB.out] at e
                have e2 : dst s (k + 1) = ⟨o ++ [b], q1, q2, q3, q4, k⟩ := by rw [e]; unfold dstep; rw [if_neg HN.out, ← HQ.out]; simp only; rw [if_neg (show ¬ 0 < m by have := C1.out; omega), if_pos (show b < 128 from D1.out)]
                exact ⟨k + 1, by omega, by go_num, by rw [e2], ⟨by rw [e2]; exact HX5.out⟩, ⟨by rw [e2]; exact hR⟩, ⟨hB⟩⟩
            · have d1b : decide (b < 128) = false := decide_eq_false d1
              have D1 := Aside0.mk d1
              by_cases d2 : q2 = 0
              · have d2b : (q2 == 0) = true := beq_iff_eq.2 d2
                have D2 := Aside0.mk d2
                clear d2
                go_wp2_with (at_builtin; refine Kd.R_append (Kd.int .i32) (w0 := w) w.heap.size rfl _ _ 48 21 (.int .i32 0) 4 rfl Tryd.underlying48 infoRune rfl (by decide) (by omega) u7 o (65533) [.int .i32 (65533)] (fun j => j ≠ w.heap.size) (fun _ => False) rfl (by first | (go_simp; done) | (go_simp; rfl)) rfl (fun _ hk => hk.elim) (fun j hj => by have := HB4.out.size; have := HSZ.out; omega) ?aO ?aB ?aS ?aL ?_; (case aO => exact HO4.out); (case aB => exact HB4.out); (case aS => have := HB4.out.size; omega); (case aL => have := HOL.out; omega); intro v5 w5 hR hB hg hat)
                have HX5 := Aside0.mk ((hg.block w.heap.size HSZ.out (by have := Kd.R_ne HO4.out HX4.out (by decide); exact this)).trans HX4.out)
                go_roundg (s.size - (k + 1))
                case measure => omega
                case rel =>
                  have e : dst s (k + 1) = dstep (dst s k) k (bt s k) := rfl
                  rw [← HD.out, ← HBB.out] at e
                  have e2 : dst s (k + 1) = ⟨o ++ [65533], q1, q2, q3, q4, k⟩ := by rw [e]; unfold dstep; rw [if_neg HN.out, ← HQ.out]; simp only; rw [if_neg (show ¬ 0 < m by have := C1.out; omega), if_neg (show ¬ b < 128 by have := D1.out; omega), if_pos (show q2 = 0 from D2.out)]
                  exact ⟨k + 1, by omega, by go_num, by rw [e2], ⟨by rw [e2]; exact HX5.out⟩, ⟨by rw [e2]; exact hR⟩, ⟨hB⟩⟩
              · have d2b : (q2 == 0) = false := beq_eq_false_iff_ne.2 d2
                have D2 := Aside0.mk d2
                go_wp2
                go_roundg (s.size - (k + 1))
                case measure => omega
                case rel =>
                  have e : dst s (k + 1) = dstep (dst s k) k (bt s k) := rfl
                  rw [← HD.out, ← HBB.out] at e
                  have e2 : dst s (k + 1) = ⟨o, q1, q2, q3, q4, k⟩ := by rw [e]; unfold dstep; rw [if_neg HN.out, ← HQ.out]; simp only; rw [if_neg (show ¬ 0 < m by have := C1.out; omega), if_neg (show ¬ b < 128 by have := D1.out; omega), if_neg (show ¬ q2 = 0 from D2.out)]
                  exact ⟨k + 1, by omega, by go_num, by rw [e2], ⟨by rw [e2]; exact HX4.out⟩, ⟨by rw [e2]; exact HO4.out⟩, ⟨HB4.out⟩⟩
        · obtain ⟨c1, c2, c3⟩ : 0 < m ∧ lo ≤ b ∧ b ≤ hi := of_decide_eq_true HV.out.symm
          have HY := Aside0.mk (show 0 < m ∧ lo ≤ b ∧ b ≤ hi from ⟨c1, c2, c3⟩)
          have vb : v ≤ 32767 := by omega
          have e63 := u8_and63 b hb0 (by omega)
          have eor := i32_or6 (v * 64) (b % 64) (by omega) (by omega) (by omega) (by omega) (by omega)
          clear HV
          go_upto_region 11 with (fail)
          generalize hW : (((wr.setCell ⟨w.heap.size, 0, none⟩ (.int .i32 (v * 64 + b % 64))).setCell ⟨w.heap.size, 1, none⟩ (.int .i64 (m - 1))).setCell ⟨w.heap.size, 2, none⟩ (.int .u8 128)).setCell ⟨w.heap.size, 3, none⟩ (.int .u8 191) = w1
          obtain ⟨p1, p2, p3⟩ := put4_ok (w := w) (.int .i32 (v * 64 + b % 64)) (.int .i64 (m - 1)) (.int .u8 128) (.int .u8 191) HX.out w1 hW.symm
          have HX1 := Aside0.mk p1
          have HO1 := Aside0.mk (p2 HO.out (fun _ h => h))
          have HB1 := Aside0.mk (p3 HB.out (Nat.le_refl _))
          have HSZ1 := Aside0.mk (show w.heap.size < w1.heap.size from (Array.getElem?_eq_some_iff.1 HX1.out).1)
          clear HSZ
          have HSZ := HSZ1
          clear hW p1 p2 p3 x0 x1 x2 x3 y0 y1 y2 y3 HX HO HB e63 eor
          have x0 := cell_of_row w1 w.heap.size 0 _ _ _ HX1.out
          have x1 := cell_of_row w1 w.heap.size 1 _ _ _ HX1.out
          simp at x0 x1
          by_cases c4 : m = 1
          · have c4b : (m - 1 == 0) = true := beq_iff_eq.2 (by omega)
            have C4 := Aside0.mk c4
            clear c4
            go_wp2_with (at_builtin; refine Kd.R_append (Kd.int .i32) (w0 := w) w.heap.size rfl _ _ 48 21 (.int .i32 0) 4 rfl Tryd.underlying48 infoRune rfl (by decide) (by omega) u7 o (v * 64 + b % 64) [.int .i32 (v * 64 + b % 64)] (fun j => j ≠ w.heap.size) (fun _ => False) rfl (by first | (go_simp; done) | (go_simp; rfl)) rfl (fun _ hk => hk.elim) (fun j hj => by have := HB1.out.size; have := HSZ.out; omega) ?aO ?aB ?aS ?aL ?_; (case aO => exact HO1.out); (case aB => exact HB1.out); (case aS => have := HB1.out.size; omega); (case aL => have := HOL.out; omega); intro v2 w2 hR hB hg hat)
            have HX2 := Aside0.mk ((hg.block w.heap.size HSZ.out (by have := Kd.R_ne HO1.out HX1.out (by decide); exact this)).trans HX1.out)
            go_roundg (s.size - (k + 1))
            case measure => omega
            case rel =>
              have e : dst s (k + 1) = dstep (dst s k) k (bt s k) := rfl
              rw [← HD.out, ← HBB.out] at e
              have e2 : dst s (k + 1) = ⟨o ++ [v * 64 + b % 64], v * 64 + b % 64, m - 1, 128, 191, st⟩ := by rw [e]; unfold dstep; rw [if_pos HY.out, if_pos C4.out]
              exact ⟨k + 1, by omega, by go_num, by rw [e2, ← HD.out], ⟨by rw [e2]; exact HX2.out⟩, ⟨by rw [e2]; exact hR⟩, ⟨hB⟩⟩
          · have c4b : (m - 1 == 0) = false := beq_eq_false_iff_ne.2 (by omega)
            go_wp2
            go_roundg (s.size - (k + 1))
            case measure => omega
            case rel =>
              have e : dst s (k + 1) = dstep (dst s k) k (bt s k) := rfl
              rw [← HD.out, ← HBB.out] at e
              have e2 : dst s (k + 1) = ⟨o, v * 64 + b % 64, m - 1, 128, 191, st⟩ := by rw [e]; unfold dstep; rw [if_pos HY.out, if_neg c4]
              exact ⟨k + 1, by omega, by go_num, by rw [e2, ← HD.out], ⟨by rw [e2]; exact HX1.out⟩, ⟨by rw [e2]; exact HO1.out⟩, ⟨HB1.out⟩⟩
    · obtain rfl : k = s.size := by omega
      obtain ⟨a1, a2, a3, a4, a5, a6, a7⟩ := dst_ok s s.size
      have a8 := dst_st s s.size
      obtain ⟨⟨o, v, m, lo, hi, st⟩, hD⟩ : ∃ D, D = dst s s.size := ⟨_, rfl⟩
      rw [← hD] at x0 x1 x2 x3 HX HO a1 a2 a3 a4 a5 a6 a7 a8
      have HD := Aside0.mk hD
      clear hD
      simp only at x0 x1 x2 x3 HX HO a1 a2 a3 a4 a5 a6 a7 a8
      by_cases c : m = 0
      · have cb : (m == 0) = true := beq_iff_eq.2 c
        have C := Aside0.mk c
        clear c
        go_wp2
        go_ret2
        have hres : restOf s = ⟨#[]⟩ := by unfold restOf; rw [← HD.out]; exact if_pos C.out
        exact ⟨_, by rw [hres]; rfl, by rw [← HD.out]; exact Kd.R_mono HO.out (fun _ _ => trivial), HB.out⟩
      · have cb : (m == 0) = false := beq_eq_false_iff_ne.2 c
        have C := Aside0.mk c
        clear c
        obtain ⟨sn, rfl⟩ := Int.eq_ofNat_of_zero_le a7
        have hst : (dst s s.size).st = (sn : Int) := by rw [← HD.out]
        have hsn : (sn : Int) ≤ (s.size : Int) := by omega
        go_wp2_with fail
        go_quiet (fail)
        go_wp2
        go_ret2
        have hres : restOf s = s.extract sn s.size := by unfold restOf; rw [← HD.out]; exact if_neg C.out
        exact ⟨_, by rw [hres]; rfl, by rw [← HD.out]; exact Kd.R_drewN (Kd.R_mono HO.out (fun _ _ => trivial)) _, pw_below_drewN HB.out _⟩
def finL (s : ByteArray) : List Int := if (restOf s).toList = [] then (dst s s.size).out else (dst s s.size).out ++ [65533]
set_option maxHeartbeats 1000000 in
set_option maxRecDepth 100000 in
theorem finish_calls (s : ByteArray) (hs : s.size ≤ 4294967296) (w : World) :
    Calls Tryd.prog 45 #[.string s] w fun e w' => ∃ v, e = .returned v ∧ (Kd.int .i32).R 21 w' w.heap.size (fun _ => True) v (finL s) ∧ Below w.heap.size w w' := by
  go_enter Tryd.func45, Tryd.ntmps45
  go_wp2_with fail
  refine (decode_calls s hs w).mono ?_
  rintro e w1 ⟨v, rfl, hR, hB⟩
  have HR := Aside0.mk hR
  have HB := Aside0.mk hB
  have HL := Aside0.mk (show (dst s s.size).out.length ≤ 2 * s.size from dst_len s s.size)
  clear hR hB
  by_cases h : (restOf s).toList = []
  · have hF := Aside0.mk (show finL s = (dst s s.size).out from if_pos h)
    have hb : (restOf s).toList.isEmpty = true := by rw [h]; rfl
    go_wp2
    go_ret
    exact ⟨_, rfl, by rw [hF.out]; exact HR.out, HB.out⟩
  · have hF := Aside0.mk (show finL s = (dst s s.size).out ++ [65533] from if_neg h)
    have hb : (restOf s).toList.isEmpty = false := by simpa using h
    have hb2 : (!(restOf s).toList.isEmpty) = true := by simpa using h
    go_wp2_with (at_builtin; refine Kd.R_append (Kd.int .i32) (w0 := w) w.heap.size rfl _ _ 48 21 (.int .i32 0) 4 rfl Tryd.underlying48 infoRune rfl (by decide) (by omega) v (dst s s.size).out 65533 [.int .i32 65533] (fun _ => True) (fun _ => False) rfl (by first | (go_simp; done) | (go_simp; rfl)) rfl (fun _ hk => hk.elim) (fun _ _ => trivial) ?aO ?aB ?aS ?aL ?_; (case aO => exact HR.out); (case aB => exact HB.out); (case aS => exact HB.out.size); (case aL => have := HL.out; omega); intro v1 w2 hR2 hB2 hg hat)
    go_ret
    exact ⟨_, rfl, by rw [hF.out]; exact hR2, hB2⟩
end Go.Proofs.YthohahcpdgebbaaDoor.Wk
namespace Go.Proofs.YthohahcpdgebbaaDoor.Wk
open Go.RowKit Go.Proofs.YthohahcpdgebbaaDoorW.PrintWords Go.Proofs.YthohahcpdgebbaaDoorW.PrintLast Go.Proofs.YthohahcpdgebbaaDoorW.PrintMore
open Go.Proofs.YthohahcpdgebbaaDoor.Th
set_option linter.unusedVariables false
set_option linter.unusedSimpArgs false
def RunIs (d : Dfa) (r : List Int) (e : Ending) : Prop := (Ok d ∧ e = .returned (.int .i64 (Th.run d d.start r))) ∨ (¬ Ok d ∧ e = .returned (.int .i64 (-1)))
theorem lab_is {d : Dfa} (hok : Ok d) {s : Int} (h0 : 0 ≤ s) (h1 : s < d.n) : d.labels.getD s.toNat 0 = d.lab s := by
  unfold Dfa.lab
  rw [List.getD_eq_getElem?_getD, List.getD_eq_getElem?_getD, List.getElem?_eq_getElem (show s.toNat < d.labels.length by rw [hok.len]; omega)]
  rfl
set_option maxHeartbeats 2000000 in
set_option maxRecDepth 100000 in
theorem run_calls (d : Dfa) (A1 : Option Addr) (c1 : Nat) (A2 : Option Addr) (c2 : Nat) (s : ByteArray) (w : World) (hd : RdD w d A1 c1 A2 c2) (hs : s.size ≤ 4294967296) (harc : ∀ l ∈ d.arcs, l.length ≤ 4294967296) :
    Calls Tryd.prog 21 #[.agg #[.int .i64 d.start, .slice A1 d.arcs.length c1, .slice A2 d.labels.length c2], .string s] w fun e w' => RunIs d (finL s) e ∧ Below w.heap.size w w' := by
  have HD := Aside0.mk hd
  have HA := Aside0.mk harc
  clear hd harc
  go_enter Tryd.func21, Tryd.ntmps21
  go_wp2_with fail
  refine (check_calls d A1 c1 A2 c2 _ (HD.out.below (below_alloc (Below.refl _ _) _))).mono ?_
  rintro e w1 ⟨hc, hb⟩
  rcases hc with ⟨rfl, hok⟩ | ⟨rfl, hno⟩
  · have hb0 : Below (w.heap.size + 1) (w.alloc (.cells #[.int .i64 d.start, .slice A1 d.arcs.length c1, .slice A2 d.labels.length c2] 28)) w1 := by
      have e : (w.alloc (.cells #[.int .i64 d.start, .slice A1 d.arcs.length c1, .slice A2 d.labels.length c2] 28)).heap.size = w.heap.size + 1 := by simp
      rwa [e] at hb
    have HB := Aside0.mk hb0
    have HOK := Aside0.mk hok
    obtain ⟨hbox, hbel, hwz⟩ := box_later hb0
    have x0 := hbox 0 _ rfl
    clear hb hb0 hok hbox hbel
    go_wp2_with fail
    refine (finish_calls s hs _).mono ?_
    rintro e w2 ⟨v, rfl, hR, hb2⟩
    obtain ⟨A, c, rfl, _, hC⟩ := Kd.R_reads hR
    have hrl : (finL s).length ≤ 9223372036854775807 := hC.2.1
    have HB2 := Aside0.mk (HB.out.trans (hb2.mono hwz))
    have HC := Aside0.mk hC
    clear hR hb2 hC x0
    obtain ⟨r, hr⟩ : ∃ r, r = finL s := ⟨_, rfl⟩
    rw [← hr] at hrl HC ⊢
    have HRR := Aside0.mk hr
    clear hr
    have st0 := HOK.out.st0
    have st1 := HOK.out.st1
    go_wp2
    go_loopw [5, 16] (fun sv iv wr => ∃ (k : Nat) (t : Int), k ≤ r.length ∧ iv = .int .i64 k ∧ sv = .int .i64 t ∧ Aside0 (0 ≤ t ∧ t < d.n) ∧ Aside0 (Th.run d d.start r = Th.run d t (r.drop k)) ∧ Aside0 (Below w2.heap.size w2 wr)) (fun _ iv _ => r.length - (intOf iv).toNat)
    case atStart => exact ⟨0, d.start, by omega, rfl, rfl, ⟨st0, st1⟩, ⟨by simp⟩, ⟨Below.refl _ _⟩⟩
    case round =>
      obtain ⟨k, t, hk, rfl, rfl, HT, HN, HB3⟩ := hrel
      have HB4 := Aside0.mk (HB2.out.trans (HB3.out.mono (by have := HB2.out.size; simp at this; omega)))
      obtain ⟨hbox, hbel, _⟩ := box_later HB4.out
      have x1 := hbox 1 _ rfl
      have x2 := hbox 2 _ rfl
      have HBL := Aside0.mk hbel
      clear hbox hbel
      obtain ⟨t0, t1⟩ := HT.out
      by_cases hlt : k < r.length
      · obtain ⟨q1, o1, e, hb1, hc1⟩ := at_num (Kd.C_below HC.out HB3.out) k hlt
        cases e
        obtain ⟨q2, o2, A0, c0, e, hb2, hc2, _, hrl2⟩ := at_arcs (HD.out.below HBL.out).arcs t.toNat (by unfold Dfa.n at t1; omega)
        cases e
        have hti : 0 ≤ t ∧ t < (d.arcs.length : Int) := ⟨t0, t1⟩
        have hm := HOK.out.arcs (d.arcs.getD t.toNat []) (by
          rw [List.getD_eq_getElem?_getD, List.getElem?_eq_getElem (by unfold Dfa.n at t1; omega)]
          exact List.getElem_mem _)
        have hll := HA.out (d.arcs.getD t.toNat []) (by
          rw [List.getD_eq_getElem?_getD, List.getElem?_eq_getElem (by unfold Dfa.n at t1; omega)]
          exact List.getElem_mem _)
        have hdr : r.drop k = r.getD k 0 :: r.drop (k + 1) := by
          rw [List.getD_eq_getElem?_getD, List.getElem?_eq_getElem hlt]
          exact List.drop_eq_getElem_cons hlt
        have HN2 := HN.out
        rw [hdr] at HN2
        obtain ⟨c, hcc⟩ : ∃ c, c = r.getD k 0 := ⟨_, rfl⟩
        obtain ⟨l, hl⟩ : ∃ l, l = d.arcs.getD t.toNat [] := ⟨_, rfl⟩
        rw [← hcc] at hc1 HN2
        rw [← hl] at hc2 hrl2 hm hll
        have hal : d.arc t = l := hl.symm
        have HRL := Aside0.mk hrl2
        have HM := Aside0.mk hm
        have HN3 := Aside0.mk HN2
        have HAL := Aside0.mk hal
        clear HN HN2 hdr hcc hl hm hrl2 hal
        go_wp2_with fail
        refine (next_calls A0 c0 l c d.n (-1) _ HRL.out hll HM.out).mono ?_
        rintro e w3 ⟨rfl, hb3⟩
        cases hs : stp l c with
        | none =>
          have HF := Aside0.mk (show RunIs d r (.returned (.int .i64 (-1))) from .inl ⟨HOK.out, by rw [HN3.out, run_cons_none (by rw [HAL.out]; exact hs)]⟩)
          have HB5 := Aside0.mk (HBL.out.trans (hb3.mono (by have := HBL.out.size; omega)))
          clear hb3 hs
          simp only [Option.getD_none]
          go_wp2
          go_ret
          exact ⟨by rw [HRR.out] at HF; exact HF.out, HB5.out⟩
        | some u =>
          have hu := stp_range HM.out hs
          have HF := Aside0.mk (show Th.run d d.start r = Th.run d u (r.drop (k + 1)) from by rw [HN3.out, run_cons_some (by rw [HAL.out]; exact hs)])
          have HB5 := Aside0.mk (HB3.out.trans (hb3.mono (by have := HB3.out.size; omega)))
          have hub : (u == -1) = false := beq_eq_false_iff_ne.2 (by omega)
          have hu0 := hu.1
          have hu1 := hu.2.1
          clear hb3 hs hu
          simp only [Option.getD_some]
          go_wp2
          go_roundw
          case rel => exact ⟨k + 1, u, by omega, by go_num, rfl, ⟨hu0, hu1⟩, HF, HB5⟩
          case measure => simp [intOf]; omega
      · obtain rfl : k = r.length := by omega
        obtain ⟨q2, o2, e, hb2, hc2⟩ := at_num (HD.out.below HBL.out).labs t.toNat (by rw [HOK.out.len]; omega)
        cases e
        rw [lab_is HOK.out t0 t1] at hc2
        have hti : 0 ≤ t ∧ t < (d.labels.length : Int) := ⟨t0, by rw [HOK.out.len]; exact t1⟩
        have HF := Aside0.mk (show RunIs d r (.returned (.int .i64 (d.lab t))) from .inl ⟨HOK.out, by rw [HN.out, List.drop_length]; rfl⟩)
        clear HN
        go_wp2
        go_ret
        exact ⟨by rw [HRR.out] at HF; exact HF.out, HBL.out⟩
  · have HF := Aside0.mk (show RunIs d (finL s) (.returned (.int .i64 (-1))) from .inr ⟨hno, rfl⟩)
    have HB := Aside0.mk (show Below w.heap.size w w1 from (below_alloc (Below.refl _ _) _).trans (hb.mono (by simp)))
    clear hno hb
    go_wp2
    go_ret
    exact ⟨HF.out, HB.out⟩
end Go.Proofs.YthohahcpdgebbaaDoor.Wk
namespace Go.Proofs.YthohahcpdgebbaaDoor.Wk
end Go.Proofs.YthohahcpdgebbaaDoor.Wk
