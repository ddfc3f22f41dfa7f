/- Proved: what a part of the given program (its deterministic automata, and the functions that they call) computes, and laws on that, under the conditions that each theorem names. -/
import Derived.Test.YthohahcpdgebbaaDoorProg
import Derived.Test.YthohahcpdgebbaaDoorJT
import Derived.Below
import Derived.Deep.Draws
import Derived.Deep.AppendLies
import Derived.Maps.AppendAt
import Derived.OwnWalk
import Derived.Laws.BytesArg
import Derived.Laws.MakeOwn
import Derived.Laws.OwnMore
import Derived.Deep.OwnRows
import Derived.Tactics
import Derived.Laws.Slices
import Derived.WalkKit
import Derived.KernelRfl
import Derived.RowKit3
import Derived.Deep.LoopGhost
import Derived.Deep.QuietTactic
import Derived.BigQuiet
import Derived.WideLaws
import Derived.Deep.DeepCutAuto
import Derived.Deep.CutBlock
import Derived.Deep.RegionHeld3
import Derived.Laws.Rows
import Derived.RowKit
import Derived.Test.YthohahcpdgebbaaDoorJW
import Derived.Outline
namespace Go.Proofs.YthohahcpdgebbaaDoor.Wk
open Go.RowKit Go.Proofs.YthohahcpdgebbaaDoorW.PrintWords Go.Proofs.YthohahcpdgebbaaDoorW.PrintLast Go.Proofs.YthohahcpdgebbaaDoorW.PrintMore
open Go.Proofs.YthohahcpdgebbaaDoor.Th
set_option linter.unusedVariables false
set_option linter.unusedSimpArgs false
theorem infoInt : (Tryd.prog.info? 3).map (fun i => (i.zero, i.size, i.bytes)) = some (some (.int .i64 0), 1, 8) := by kernel_rfl
theorem infoRune : (Tryd.prog.info? 21).map (fun i => (i.zero, i.size, i.bytes)) = some (some (.int .i32 0), 1, 4) := by kernel_rfl
def kArc : Kd Arc := Kd.iso (Kd.pair (Kd.pair (Kd.int .i32) (Kd.int .i32)) (Kd.int .i64)) (fun x : Arc => ((x.lo, x.hi), x.to))
def arcCells (x : Arc) : List Value := [.int .i32 x.lo, .int .i32 x.hi, .int .i64 x.to]
theorem kArc_open {w : World} {x : Arc} {cs : List Value} (h : kArc.K w x cs) : cs = [.int .i32 x.lo, .int .i32 x.hi, .int .i64 x.to] := by
  obtain ⟨_, _, rfl, ⟨_, _, rfl, rfl, rfl⟩, rfl⟩ := h
  rfl
theorem kArc_mk (w : World) (x : Arc) : kArc.K w x [.int .i32 x.lo, .int .i32 x.hi, .int .i64 x.to] :=
  ⟨[.int .i32 x.lo, .int .i32 x.hi], [.int .i64 x.to], rfl, ⟨[.int .i32 x.lo], [.int .i32 x.hi], rfl, rfl, rfl⟩, rfl⟩
theorem kArc_mkM (w : World) (base : Nat) (ok : Nat → Prop) (x : Arc) : kArc.M w base ok x [.int .i32 x.lo, .int .i32 x.hi, .int .i64 x.to] :=
  ⟨[.int .i32 x.lo, .int .i32 x.hi], [.int .i64 x.to], rfl, ⟨[.int .i32 x.lo], [.int .i32 x.hi], rfl, rfl, rfl⟩, rfl⟩
theorem kArc_openM {w : World} {base : Nat} {ok : Nat → Prop} {x : Arc} {cs : List Value} (h : kArc.M w base ok x cs) : cs = [.int .i32 x.lo, .int .i32 x.hi, .int .i64 x.to] := kArc_open (kArc.K_of_M h)
theorem C_lit {α : Type} {d : Kd α} {w : World} {A : Option Addr} {n : Nat} {xs : List α} (h : d.C w A n xs) (hn : 0 < n) (hs : 0 < d.sz) (z : α) :
    ∃ b o, A = some ⟨b, o, none⟩ ∧ b < w.heap.size ∧ ∀ i : Nat, i < n → ∃ c, c.length = d.sz ∧ d.K w (xs.getD i z) c ∧ ∀ j u, c[j]? = some u → w.cell? ⟨b, o + i * d.sz + j, none⟩ = some u := by
  obtain ⟨ad, c, e, hl, _, hc⟩ := Kd.C_get h z 0 (by omega) (by omega)
  obtain ⟨b, o, sp⟩ := ad
  have hz : ∃ u, c[0]? = some u := ⟨_, List.getElem?_eq_getElem (by omega)⟩
  obtain ⟨u, hu⟩ := hz
  have h0 := hc 0 u hu
  simp only [Int.toNat_zero, Nat.zero_mul, Nat.add_zero] at h0
  have e0 : (⟨b, o, sp⟩ : Addr).add 0 = ⟨b, o, sp⟩ := by simp [Addr.add]
  rw [e0] at h0
  have hsp : sp = none := World.cell?_spot h0
  subst hsp
  refine ⟨b, o, e, World.block_lt_of_cell? w _ h0, fun i hi => ?_⟩
  obtain ⟨ad', c', e', hl', hk', hc'⟩ := Kd.C_get h z (i : Int) (by omega) (by omega)
  rw [e] at e'
  injection e' with e'
  subst e'
  refine ⟨c', hl', hk', fun j u hj => ?_⟩
  have := hc' j u hj
  rwa [Addr.add_lit, show o + ((i : Int).toNat * d.sz + j) = o + i * d.sz + j by simp; omega] at this
theorem at_arc {w : World} {A : Option Addr} {n : Nat} {xs : List Arc} (h : Kd.C kArc w A n xs) (i : Nat) (hi : i < n) :
    ∃ b o, A = some ⟨b, o, none⟩ ∧ b < w.heap.size ∧ w.cell? ⟨b, o + i * 3, none⟩ = some (.int .i32 (xs.getD i default).lo) ∧ w.cell? ⟨b, o + i * 3 + 1, none⟩ = some (.int .i32 (xs.getD i default).hi) ∧
      w.cell? ⟨b, o + i * 3 + 2, none⟩ = some (.int .i64 (xs.getD i default).to) := by
  obtain ⟨b, o, e, hb, hc⟩ := C_lit h (by omega) (by decide) default
  obtain ⟨c, _, hK, hc⟩ := hc i hi
  obtain rfl := kArc_open hK
  exact ⟨b, o, e, hb, hc 0 _ rfl, hc 1 _ rfl, hc 2 _ rfl⟩
theorem at_arcs {w : World} {A : Option Addr} {n : Nat} {xs : List (List Arc)} (h : Kd.C (Kd.slice 54 kArc) w A n xs) (i : Nat) (hi : i < n) :
    ∃ b o A0 c0, A = some ⟨b, o, none⟩ ∧ b < w.heap.size ∧ w.cell? ⟨b, o + i, none⟩ = some (.slice A0 (xs.getD i []).length c0) ∧ (xs.getD i []).length ≤ c0 ∧ kArc.C w A0 (xs.getD i []).length (xs.getD i []) := by
  obtain ⟨b, o, e, hb, hc⟩ := C_lit h (by omega) (by decide) []
  obtain ⟨c, _, hK, hc⟩ := hc i hi
  obtain ⟨A0, c0, rfl, l0, g0⟩ := hK
  have := hc 0 _ rfl
  rw [show o + i * (Kd.slice 54 kArc).sz + 0 = o + i by simp [Kd.slice]] at this
  exact ⟨b, o, A0, c0, e, hb, this, l0, g0⟩
theorem at_num {w : World} {A : Option Addr} {n : Nat} {k : IntKind} {xs : List Int} (h : (Kd.int k).C w A n xs) (i : Nat) (h1 : i < n) :
    ∃ b o, A = some ⟨b, o, none⟩ ∧ b < w.heap.size ∧ w.cell? ⟨b, o + i, none⟩ = some (.int k (xs.getD i 0)) := by
  obtain ⟨b, o, e, hb, hc⟩ := C_lit h (by omega) (by simp [Kd.int, Kd.scalar]) 0
  obtain ⟨c, _, hK, hc⟩ := hc i h1
  obtain rfl : c = [.int k (xs.getD i 0)] := hK
  have := hc 0 _ rfl
  rw [show o + i * (Kd.int k).sz + 0 = o + i by simp [Kd.int, Kd.scalar]] at this
  exact ⟨b, o, e, hb, this⟩
theorem flatMap_set {α : Type} (f : α → List Value) (sz : Nat) (hf : ∀ x, (f x).length = sz) (j : Nat) (x' : α) (u : Value) : ∀ (xs : List α) (i : Nat) (hi : i < xs.length), j < sz → f x' = (f (xs[i]'hi)).set j u →
    (xs.flatMap f).set (i * sz + j) u = (xs.set i x').flatMap f
  | x :: xs, 0, _, hj, hx => by
    simp only [List.getElem_cons_zero] at hx
    simp only [List.flatMap_cons, List.set_cons_zero, Nat.zero_mul, Nat.zero_add]
    rw [List.set_append_left _ _ (by rw [hf]; exact hj), ← hx]
  | x :: xs, i + 1, hi, hj, hx => by
    simp only [List.getElem_cons_succ] at hx
    simp only [List.flatMap_cons, List.set_cons_succ]
    have e : (i + 1) * sz + j = (f x).length + (i * sz + j) := by rw [hf, Nat.succ_mul]; omega
    rw [e, List.set_append_right _ _ (by omega), Nat.add_sub_cancel_left, flatMap_set f sz hf j x' u xs i (by simpa using hi) hj hx]
theorem reps_flat {α : Type} {R : α → List Value → Prop} (f : α → List Value) (sz : Nat) (hf : ∀ x, (f x).length = sz) (hR : ∀ x cs, R x cs ↔ cs = f x) : ∀ (xs : List α) (inner : List Value), Reps R sz xs inner ↔ inner = xs.flatMap f := by
  intro xs
  induction xs with
  | nil =>
    intro inner
    constructor
    · intro h
      exact List.eq_nil_of_length_eq_zero (by simpa using h.1)
    · rintro rfl
      exact Reps.none _ _
  | cons x xs ih =>
    intro inner
    constructor
    · intro h
      have hl := h.1
      simp only [List.length_cons, Nat.succ_mul] at hl
      have h0 := (hR _ _).1 (h.2 0 x rfl)
      simp only [Nat.zero_mul, List.drop_zero] at h0
      have ht : Reps R sz xs (inner.drop sz) := ⟨by rw [List.length_drop, hl]; omega, fun j p hj => by
        have := h.2 (j + 1) p (by simpa using hj)
        rwa [Nat.succ_mul, Nat.add_comm, ← List.drop_drop] at this⟩
      rw [List.flatMap_cons, ← h0, ← (ih _).1 ht, List.take_append_drop]
    · rintro rfl
      have ht : Reps R sz xs (xs.flatMap f) := (ih _).2 rfl
      refine ⟨by simp [hf, ht.1, Nat.succ_mul]; omega, fun j p hj => ?_⟩
      cases j with
      | zero =>
        injection hj with hj
        subst hj
        rw [List.flatMap_cons, Nat.zero_mul, List.drop_zero, List.take_left' (hf x)]
        exact (hR _ _).2 rfl
      | succ j =>
        have := ht.2 j p (by simpa using hj)
        have e : (j + 1) * sz = (f x).length + j * sz := by rw [hf, Nat.succ_mul]; omega
        rw [List.flatMap_cons, e, List.drop_append, List.drop_of_length_le (by omega), List.nil_append, Nat.add_sub_cancel_left]
        exact this
theorem R_flat_put {α : Type} (d : Kd α) (f : α → List Value) (hf : ∀ x, (f x).length = d.sz) (hM : ∀ w base ok x cs, d.M w base ok x cs ↔ cs = f x) {e : Nat} {W : World} {base : Nat} {ok : Nat → Prop} {g n cap : Nat} {xs : List α}
    (h : d.R e W base ok (.slice (some ⟨g, 0, none⟩) n cap) xs) (i j : Nat) (hi : i < xs.length) (hj : j < d.sz) (x' : α) (u : Value) (hx : f x' = (f (xs[i]'hi)).set j u) :
    d.R e (W.setCell ⟨g, i * d.sz + j, none⟩ u) base ok (.slice (some ⟨g, 0, none⟩) n cap) (xs.set i x') ∧ W.grownBy (W.setCell ⟨g, i * d.sz + j, none⟩ u) (some g) := by
  obtain ⟨h0, inner, ho, hr⟩ := h
  have hn : n = xs.length := by
    obtain ⟨_, _, he⟩ := own_slice ho
    injection he
  subst hn
  have hs := ho.stored (i * d.sz + j) u
  rw [(reps_flat f d.sz hf (hM _ _ _) _ _).1 hr, flatMap_set f d.sz hf j x' u xs i hi hj hx] at hs
  exact ⟨⟨h0, _, by rw [List.length_set]; exact hs.1, (reps_flat f d.sz hf (hM _ _ _) _ _).2 rfl⟩, hs.2⟩
theorem kArc_flat (w : World) (base : Nat) (ok : Nat → Prop) (x : Arc) (cs : List Value) : kArc.M w base ok x cs ↔ cs = arcCells x :=
  ⟨fun h => kArc_openM h, fun h => by rw [h]; exact kArc_mkM _ _ _ _⟩
theorem after_calls (r : Int) (h0 : -2147483648 ≤ r) (h1 : r < 2147483647) (w : World) : Calls Tryd.prog 66 #[.int .i32 r] w fun e w' => e = .returned (.int .i32 (nx r)) ∧ w' = w := by
  by_cases h : r = 55295
  · subst h
    go_enter Tryd.func66, Tryd.ntmps66
    go_wp2
    go_ret
    exact ⟨rfl, rfl⟩
  · have e : nx r = r + 1 := by unfold nx; rw [if_neg h]
    rw [e]
    go_enter Tryd.func66, Tryd.ntmps66
    go_wp2
    go_ret
    exact ⟨rfl, rfl⟩
theorem before_calls (r : Int) (h0 : -2147483648 < r) (h1 : r ≤ 2147483647) (w : World) : Calls Tryd.prog 69 #[.int .i32 r] w fun e w' => e = .returned (.int .i32 (pv r)) ∧ w' = w := by
  by_cases h : r = 57344
  · subst h
    go_enter Tryd.func69, Tryd.ntmps69
    go_wp2
    go_ret
    exact ⟨rfl, rfl⟩
  · have e : pv r = r - 1 := by unfold pv; rw [if_neg h]
    rw [e]
    go_enter Tryd.func69, Tryd.ntmps69
    go_wp2
    go_ret
    exact ⟨rfl, rfl⟩
end Go.Proofs.YthohahcpdgebbaaDoor.Wk
namespace Go.Proofs.YthohahcpdgebbaaDoor.Wk
open Go.RowKit Go.Proofs.YthohahcpdgebbaaDoorW.PrintWords Go.Proofs.YthohahcpdgebbaaDoorW.PrintLast Go.Proofs.YthohahcpdgebbaaDoorW.PrintMore
open Go.Proofs.YthohahcpdgebbaaDoor.Th
set_option linter.unusedVariables false
set_option linter.unusedSimpArgs false
theorem infoArc : (Tryd.prog.info? 54).map (fun i => (i.zero, i.size, i.bytes)) = some (some (.agg #[.int .i32 0, .int .i32 0, .int .i64 0]), 3, 16) := by kernel_rfl
def cl (out : List Int) (t : Int) : Int := out.getD t.toNat (-1)
set_option maxHeartbeats 1000000 in
set_option maxRecDepth 100000 in
theorem grouped_calls (A0 : Option Addr) (c0 : Nat) (l : List Arc) (A1 : Option Addr) (c1 : Nat) (cls : List Int) (w : World)
    (hr0 : kArc.C w A0 l.length l) (hr1 : (Kd.int .i64).C w A1 cls.length cls) (hto : ∀ a ∈ l, 0 ≤ a.to ∧ a.to < cls.length ∧ a.hi ≤ 1114111 ∧ 0 ≤ a.hi) (hlen : l.length ≤ 4294967296) :
    Calls Tryd.prog 49 #[.slice A0 l.length c0, .slice A1 cls.length c1] w fun e w' => ∃ v, e = .returned v ∧ kArc.R 54 w' w.heap.size (fun _ => True) v (l.foldl (grpStep (cl cls)) []) ∧ Below w.heap.size w w' := by
  have HR0 := Aside0.mk hr0
  have HR1 := Aside0.mk hr1
  have HT := Aside0.mk hto
  clear hr0 hr1 hto
  go_enter Tryd.func49, Tryd.ntmps49
  go_wp2
  go_loopw [5, 11] (fun v i wr => ∃ k : Nat, k ≤ l.length ∧ i = .int .i64 k ∧ Aside0 (kArc.R 54 wr w.heap.size (fun _ => True) v ((l.take k).foldl (grpStep (cl cls)) [])) ∧ Aside0 (Below w.heap.size w wr)) (fun _ i _ => l.length - (intOf i).toNat)
  case atStart => exact ⟨0, Nat.zero_le _, rfl, ⟨Kd.R_nil _ _ _ _ _⟩, ⟨Below.refl _ _⟩⟩
  case round =>
    obtain ⟨k, hk, rfl, HO, HB⟩ := hrel
    by_cases hlt : k < l.length
    · obtain ⟨b0, o0, e, hb0, hc0, hc1, hc2⟩ := at_arc (Kd.C_below HR0.out HB.out) k hlt
      cases e
      have hm : l.getD k default ∈ l := by rw [List.getD_eq_getElem?_getD, List.getElem?_eq_getElem hlt]; exact List.getElem_mem hlt
      obtain ⟨t0, t1, t2, t3⟩ := HT.out _ hm
      have hstep : Aside0 ((l.take (k + 1)).foldl (grpStep (cl cls)) [] = grpStep (cl cls) ((l.take k).foldl (grpStep (cl cls)) []) (l.getD k default)) := ⟨by
        rw [List.take_succ_eq_append_getElem hlt, List.foldl_append, List.getD_eq_getElem?_getD, List.getElem?_eq_getElem hlt]; rfl⟩
      obtain ⟨a, ha⟩ : ∃ a, a = l.getD k default := ⟨_, rfl⟩
      obtain ⟨out, hout⟩ : ∃ out, out = (l.take k).foldl (grpStep (cl cls)) [] := ⟨_, rfl⟩
      rw [← ha] at hc0 hc1 hc2 t0 t1 t2 t3 hstep
      rw [← hout] at HO hstep
      have hol : out.length ≤ k := by rw [hout]; exact Nat.le_trans (foldl_grpStep_len _ _ _) (by simp; omega)
      have hoh := foldl_grpStep_hi (fun x => 0 ≤ x ∧ x ≤ 1114111) (cl cls) (l.take k) [] (fun b hb => ⟨(HT.out b (List.mem_of_mem_take hb)).2.2.2, (HT.out b (List.mem_of_mem_take hb)).2.2.1⟩) (fun _ hx => by cases hx)
      rw [← hout] at hoh
      have HOH := Aside0.mk hoh
      clear hm ha hout hoh
      obtain ⟨b1, o1, e1, hb1, hcl⟩ := at_num (Kd.C_below HR1.out HB.out) a.to.toNat (by omega)
      cases e1
      have hce : cls.getD a.to.toNat 0 = cl cls a.to := by
        unfold cl
        rw [List.getD_eq_getElem?_getD, List.getD_eq_getElem?_getD, List.getElem?_eq_getElem (show a.to.toNat < cls.length by omega)]
        rfl
      rw [hce] at hcl
      obtain ⟨c, hc⟩ : ∃ c, c = cl cls a.to := ⟨_, rfl⟩
      rw [← hc] at hcl
      have HCL := Aside0.mk hc
      clear hc hce
      have hix : 0 ≤ a.to ∧ a.to < cls.length := ⟨t0, t1⟩
      have hst := (show l.length - (k + 1) < l.length - k by omega)
      by_cases hn : c = -1
      · subst hn
        go_wp2
        go_roundw
        case rel =>
          refine ⟨k + 1, by omega, by go_num, ⟨?_⟩, ⟨below_alloc HB.out _⟩⟩
          rw [hstep.out, grpStep, if_pos HCL.out.symm]
          exact Kd.R_alloc HO.out _
        case measure => simp [intOf]; omega
      · have hnb : (c == -1) = false := beq_eq_false_iff_ne.2 hn
        rcases List.eq_nil_or_concat out with hnil | ⟨pre, z, hcat⟩
        · subst hnil
          obtain ⟨A, c2, rfl⟩ := Kd.R_slice HO.out
          go_wp2_with fail
          go_quiet (fail)
          go_wp2_with (at_builtin; refine Kd.R_append kArc (w0 := w) w.heap.size rfl _ _ 50 54 (.agg #[.int .i32 0, .int .i32 0, .int .i64 0]) 16 rfl Tryd.underlying50 infoArc rfl (by decide) (by omega) (.slice A 0 c2) [] ⟨a.lo, a.hi, c⟩ [.int .i32 a.lo, .int .i32 a.hi, .int .i64 c] (fun _ => True) (fun _ => False) rfl (by first | (go_simp; done) | (go_simp; rfl)) (kArc_mkM _ _ _ _) (fun _ hk => hk.elim) (fun _ _ => trivial) ?aO ?aB ?aS ?aL ?_; (case aO => exact Kd.R_drewN (Kd.R_alloc HO.out _) _); (case aB => exact pw_below_drewN (below_alloc HB.out _) _); (case aS => have := HB.out.size; simp; omega); (case aL => simp); intro v1 w1 hR hB hg hat)
          go_roundw
          case rel => exact ⟨k + 1, by omega, by go_num, ⟨by rw [hstep.out, grpStep, ← HCL.out, if_neg hn]; exact hR⟩, ⟨hB⟩⟩
          case measure => simp [intOf]; omega
        · subst hcat
          have hol' : pre.length + 1 ≤ k := by simpa using hol
          obtain ⟨zh0, zh1⟩ := HOH.out z (by simp)
          clear HOH
          obtain ⟨g, cap, rfl, hg0, hg1, _⟩ := Kd.R_form HO.out (by simp)
          obtain ⟨cs, _, hM, hcz, hfz⟩ := Kd.R_elem HO.out default (pre.length : Int) (by omega) (by simp; omega)
          have ez : (pre.concat z).getD (pre.length : Int).toNat default = z := by simp
          rw [ez] at hM
          obtain rfl := kArc_openM hM
          have e3 : (pre.length : Int).toNat * kArc.sz = pre.length * 3 := rfl
          have z0 := hcz 0 _ rfl
          have z1 := hcz 1 _ rfl
          have z2 := hcz 2 _ rfl
          have f1 := hfz 1
          rw [e3] at z0 z1 z2 f1
          simp only [Nat.add_zero] at z0
          clear hcz hfz e3 ez hM
          have elen : (pre.concat z).length = pre.length + 1 := by simp
          rw [elen] at HO ⊢
          have zz : 0 ≤ (pre.length : Int) ∧ (pre.length : Int) < (pre.length : Int) + 1 := ⟨by omega, by omega⟩
          have HG := Aside0.mk elen
          clear elen
          by_cases k1 : z.to = c
          · have k1b : (z.to == c) = true := beq_iff_eq.2 k1
            have HK1 := Aside0.mk k1
            clear k1
            by_cases k2 : nx z.hi = a.lo
            · have k2b : (nx z.hi == a.lo) = true := beq_iff_eq.2 k2
              have HK2 := Aside0.mk k2
              clear k2
              go_wp2_with fail
              go_quiet ((go_at_call 66; exact Calls.quiet_of_same (after_calls _ (by omega) (by omega) _)))
              go_wp2
              go_roundw
              case rel =>
                have hput := fun (m : Nat) (o : Obj) => R_flat_put kArc arcCells (fun _ => rfl) kArc_flat (Kd.R_drewN (Kd.R_alloc HO.out o) m) pre.length 1 (by simp) (by decide) ⟨z.lo, a.hi, z.to⟩ (.int .i32 a.hi) (by simp [arcCells])
                refine ⟨k + 1, by omega, by go_num, ⟨?_⟩, ⟨below_set (pw_below_drewN (below_alloc HB.out _) _) hg0⟩⟩
                rw [hstep.out, List.concat_eq_append, grpStep_some, ← HCL.out, if_neg hn, if_pos ⟨HK1.out, HK2.out⟩]
                rw [show pre ++ [(⟨z.lo, a.hi, z.to⟩ : Arc)] = (pre.concat z).set pre.length ⟨z.lo, a.hi, z.to⟩ by simp]
                exact (hput _ _).1
              case measure => simp [intOf]; omega
            · have k2b : (nx z.hi == a.lo) = false := beq_eq_false_iff_ne.2 k2
              go_wp2_with fail
              go_quiet ((go_at_call 66; exact Calls.quiet_of_same (after_calls _ (by omega) (by omega) _)))
              go_wp2_with (at_builtin; refine Kd.R_append kArc (w0 := w) w.heap.size rfl _ _ 50 54 (.agg #[.int .i32 0, .int .i32 0, .int .i64 0]) 16 rfl Tryd.underlying50 infoArc rfl (by decide) (by omega) (.slice (some ⟨g, 0, none⟩) (pre.length + 1) cap) (pre.concat z) ⟨a.lo, a.hi, c⟩ [.int .i32 a.lo, .int .i32 a.hi, .int .i64 c] (fun _ => True) (fun _ => False) rfl (by first | (go_simp; done) | (go_simp; rfl)) (kArc_mkM _ _ _ _) (fun _ hk => hk.elim) (fun _ _ => trivial) ?aO ?aB ?aS ?aL ?_; (case aO => exact Kd.R_drewN (Kd.R_alloc HO.out _) _); (case aB => exact pw_below_drewN (below_alloc HB.out _) _); (case aS => have := HB.out.size; simp; omega); (case aL => rw [HG.out]; omega); intro v1 w1 hR hB hg hat)
              go_roundw
              case rel => exact ⟨k + 1, by omega, by go_num, ⟨by rw [hstep.out, List.concat_eq_append, grpStep_some, ← HCL.out, if_neg hn, if_neg (fun hh => k2 hh.2)]; simpa using hR⟩, ⟨hB⟩⟩
              case measure => simp [intOf]; omega
          · have k1b : (z.to == c) = false := beq_eq_false_iff_ne.2 k1
            go_wp2_with fail
            go_quiet (fail)
            go_wp2_with (at_builtin; refine Kd.R_append kArc (w0 := w) w.heap.size rfl _ _ 50 54 (.agg #[.int .i32 0, .int .i32 0, .int .i64 0]) 16 rfl Tryd.underlying50 infoArc rfl (by decide) (by omega) (.slice (some ⟨g, 0, none⟩) (pre.length + 1) cap) (pre.concat z) ⟨a.lo, a.hi, c⟩ [.int .i32 a.lo, .int .i32 a.hi, .int .i64 c] (fun _ => True) (fun _ => False) rfl (by first | (go_simp; done) | (go_simp; rfl)) (kArc_mkM _ _ _ _) (fun _ hk => hk.elim) (fun _ _ => trivial) ?aO ?aB ?aS ?aL ?_; (case aO => exact Kd.R_drewN (Kd.R_alloc HO.out _) _); (case aB => exact pw_below_drewN (below_alloc HB.out _) _); (case aS => have := HB.out.size; simp; omega); (case aL => rw [HG.out]; omega); intro v1 w1 hR hB hg hat)
            go_roundw
            case rel => exact ⟨k + 1, by omega, by go_num, ⟨by rw [hstep.out, List.concat_eq_append, grpStep_some, ← HCL.out, if_neg hn, if_neg (fun hh => k1 hh.1)]; simpa using hR⟩, ⟨hB⟩⟩
            case measure => simp [intOf]; omega
    · obtain rfl : k = l.length := by omega
      go_wp2
      go_ret
      exact ⟨_, rfl, by have := HO.out; rwa [List.take_length] at this, HB.out⟩
end Go.Proofs.YthohahcpdgebbaaDoor.Wk
namespace Go.Proofs.YthohahcpdgebbaaDoor.Wk
open Go.RowKit Go.Proofs.YthohahcpdgebbaaDoorW.PrintWords Go.Proofs.YthohahcpdgebbaaDoorW.PrintLast Go.Proofs.YthohahcpdgebbaaDoorW.PrintMore
open Go.Proofs.YthohahcpdgebbaaDoor.Th
set_option linter.unusedVariables false
set_option linter.unusedSimpArgs false
set_option maxHeartbeats 1000000 in
set_option maxRecDepth 100000 in
theorem next1_calls (A0 : Option Addr) (c0 : Nat) (l : List Arc) (r : Int) (i : Nat) (b1 b2 : Nat) (w : World) (hi : i < l.length) (h1 : w.cell? ⟨b1, 0, none⟩ = some (.slice A0 l.length c0)) (h2 : w.cell? ⟨b2, 0, none⟩ = some (.int .i32 r))
    (hr : kArc.C w A0 l.length l) :
    Calls Tryd.prog 76 #[.int .i64 i, .pointer (some ⟨b1, 0, none⟩), .pointer (some ⟨b2, 0, none⟩)] w fun e w' => e = .returned (.bool (decide (r ≤ (l.getD i default).hi))) ∧ ∃ n, w' = w.drewN n := by
  obtain ⟨b0, o0, rfl, hb0, hc0, hc1, hc2⟩ := at_arc hr i hi
  clear hr
  obtain ⟨z, hz⟩ : ∃ z, z = (l.getD i default).hi := ⟨_, rfl⟩
  rw [← hz] at hc1 ⊢
  clear hz
  have hi1 : (i : Int) < (l.length : Int) := by omega
  have hi0 : (0 : Int) ≤ (i : Int) := by omega
  go_enter Tryd.func76, Tryd.ntmps76
  go_wp2_with fail
  go_quiet (fail)
  go_wp2
  go_ret
  exact ⟨rfl, _, rfl⟩
def IsFirst (p : Nat → Bool) (n i : Nat) : Prop := i ≤ n ∧ (∀ x, x < i → p x = false) ∧ (∀ x, i ≤ x → x < n → p x = true)
set_option maxHeartbeats 1000000 in
set_option maxRecDepth 100000 in
theorem search_calls (A0 : Option Addr) (c0 : Nat) (l : List Arc) (r : Int) (b1 b2 : Nat) (w : World) (h1 : w.cell? ⟨b1, 0, none⟩ = some (.slice A0 l.length c0)) (h2 : w.cell? ⟨b2, 0, none⟩ = some (.int .i32 r))
    (hr : kArc.C w A0 l.length l) (hlen : l.length ≤ 4294967296) (hmono : ∀ x y, x ≤ y → y < l.length → r ≤ (l.getD x default).hi → r ≤ (l.getD y default).hi) :
    Calls Tryd.prog 75 #[.int .i64 l.length, .func (.func 76) #[] #[.pointer (some ⟨b1, 0, none⟩), .pointer (some ⟨b2, 0, none⟩)]] w
      fun e w' => ∃ i : Nat, e = .returned (.int .i64 i) ∧ IsFirst (fun x => decide (r ≤ (l.getD x default).hi)) l.length i ∧ ∃ n, w' = w.drewN n := by
  have H1 := Aside0.mk h1
  have H2 := Aside0.mk h2
  have HR := Aside0.mk hr
  have HM := Aside0.mk hmono
  clear h1 h2 hr hmono
  go_enter Tryd.func75, Tryd.ntmps75
  go_wp2
  go_loopw [5, 6] (fun i j wr => ∃ x y : Nat, i = .int .i64 x ∧ j = .int .i64 y ∧ x ≤ y ∧ y ≤ l.length ∧ Aside0 (∀ k, k < x → (l.getD k default).hi < r) ∧ Aside0 (∀ k, y ≤ k → k < l.length → r ≤ (l.getD k default).hi) ∧ Drawn0 w wr)
    (fun i j _ => ((intOf j).toNat - (intOf i).toNat))
  case atStart => exact ⟨0, l.length, rfl, rfl, by omega, by omega, ⟨fun k hk => by omega⟩, ⟨fun k h1 h2 => by omega⟩, Drawn0.refl w⟩
  case round =>
    obtain ⟨x, y, rfl, rfl, hxy, hyn, HX, HY, ⟨m, rfl⟩⟩ := hrel
    by_cases hlt : x < y
    · obtain ⟨h, hh⟩ : ∃ h : Nat, h = (x + y) / 2 := ⟨_, rfl⟩
      have eh : ((x : Int) + (y : Int)) / 2 = (h : Int) := by omega
      have g1 : x ≤ h := by omega
      have g2 : h < y := by omega
      have EH := Aside0.mk eh
      clear hh eh
      go_wp2_with fail
      rw [EH.out]
      by_cases hp : r ≤ (l.getD h default).hi
      · refine (next1_calls _ _ l r h b1 b2 (w.drewN m) (by omega) (by simpa using H1.out) (by simpa using H2.out) (Kd.C_drewN HR.out m)).mono ?_
        rintro e w' ⟨rfl, n, rfl⟩
        rw [decide_eq_true hp]
        have HP := Aside0.mk hp
        clear hp
        go_wp2
        go_roundw
        case rel => exact ⟨x, h, rfl, rfl, by omega, by omega, HX, ⟨fun k k1 k2 => HM.out h k k1 k2 HP.out⟩, ⟨m + n, rfl⟩⟩
        case measure => simp [intOf]; omega
      · refine (next1_calls _ _ l r h b1 b2 (w.drewN m) (by omega) (by simpa using H1.out) (by simpa using H2.out) (Kd.C_drewN HR.out m)).mono ?_
        rintro e w' ⟨rfl, n, rfl⟩
        rw [decide_eq_false hp]
        have HP := Aside0.mk (show r ≤ (l.getD h default).hi → False from hp)
        clear hp
        go_wp2
        go_roundw
        case rel => exact ⟨h + 1, y, by go_num, rfl, by omega, by omega, ⟨fun k k1 => Int.not_le.1 fun hk => HP.out (HM.out k h (by omega) (by omega) hk)⟩, HY, ⟨m + n, rfl⟩⟩
        case measure => simp [intOf]; omega
    · obtain rfl : x = y := by omega
      go_wp2
      go_ret
      refine ⟨x, rfl, ⟨hyn, fun k hk => decide_eq_false ?_, fun k k1 k2 => decide_eq_true ?_⟩, m, rfl⟩
      · exact Int.not_le.2 (by simpa using HX.out k hk)
      · simpa using HY.out k k1 k2
theorem stp_first {n : Int} {r : Int} : ∀ {l : List Arc} {b : Int} {i : Nat}, okA n b l → IsFirst (fun x => decide (r ≤ (l.getD x default).hi)) l.length i →
    (i < l.length ∧ (l.getD i default).lo ≤ r ∧ stp l r = some (l.getD i default).to) ∨ (¬ (i < l.length ∧ (l.getD i default).lo ≤ r) ∧ stp l r = none)
  | [], b, i, _, h => .inr ⟨fun hh => by simp at hh, rfl⟩
  | a :: l, b, 0, ⟨h1, h2, h3, h4, h5, h6, h7⟩, h => by
    have h0 := h.2.2 0 (by omega) (by simp)
    simp at h0
    by_cases k : a.lo ≤ r
    · exact .inl ⟨by simp, by simpa using k, by simp [stp, k, h0]⟩
    · refine .inr ⟨fun hh => k (by simpa using hh.2), ?_⟩
      rw [stp, if_neg (by omega)]
      exact stp_low h7 (by omega)
  | a :: l, b, i + 1, ⟨h1, h2, h3, h4, h5, h6, h7⟩, h => by
    have h0 := h.2.1 0 (by omega)
    simp at h0
    have hi : IsFirst (fun x => decide (r ≤ (l.getD x default).hi)) l.length i := by
      refine ⟨by have := h.1; simp at this; omega, fun x hx => ?_, fun x hx hx2 => ?_⟩
      · have := h.2.1 (x + 1) (by omega)
        simpa using this
      · have := h.2.2 (x + 1) (by omega) (by simp; omega)
        simpa using this
    have e : stp (a :: l) r = stp l r := by rw [stp, if_neg (by omega)]
    rw [e]
    rcases stp_first h7 hi with ⟨g1, g2, g3⟩ | ⟨g1, g3⟩
    · exact .inl ⟨by simp; omega, by simpa using g2, by rw [g3]; simp⟩
    · exact .inr ⟨fun hh => g1 ⟨by have := hh.1; simp at this; omega, by simpa using hh.2⟩, g3⟩
theorem okA_mono {n : Int} {r : Int} : ∀ {l : List Arc} {b : Int}, okA n b l → ∀ x y, x ≤ y → y < l.length → r ≤ (l.getD x default).hi → r ≤ (l.getD y default).hi
  | [], _, _, _, _, _, h, _ => by simp at h
  | a :: l, b, ⟨h1, h2, h3, h4, h5, h6, h7⟩, 0, 0, _, _, h => h
  | a :: l, b, ⟨h1, h2, h3, h4, h5, h6, h7⟩, 0, y + 1, _, hy, h => by
    have hy' : y < l.length := by simpa using hy
    have := okA_above h7 y hy'
    simp at h ⊢
    simp at this
    omega
  | a :: l, b, ⟨h1, h2, h3, h4, h5, h6, h7⟩, x + 1, 0, hxy, _, _ => by omega
  | a :: l, b, ⟨h1, h2, h3, h4, h5, h6, h7⟩, x + 1, y + 1, hxy, hy, h => by
    have := okA_mono (r := r) h7 x y (by omega) (by simpa using hy) (by simpa using h)
    simpa using this
where
  okA_above {n : Int} : ∀ {l : List Arc} {b : Int}, okA n b l → ∀ y, y < l.length → b < (l.getD y default).hi
    | [], _, _, _, h => by simp at h
    | a :: l, b, ⟨h1, h2, h3, h4, h5, h6, h7⟩, 0, _ => by simp; omega
    | a :: l, b, ⟨h1, h2, h3, h4, h5, h6, h7⟩, y + 1, hy => by
      have := okA_above h7 y (by simpa using hy)
      simp at this ⊢
      omega
set_option maxHeartbeats 1000000 in
set_option maxRecDepth 100000 in
theorem next_calls (A0 : Option Addr) (c0 : Nat) (l : List Arc) (r : Int) (n b : Int) (w : World) (hr : kArc.C w A0 l.length l) (hlen : l.length ≤ 4294967296) (hok : okA n b l) :
    Calls Tryd.prog 46 #[.slice A0 l.length c0, .int .i32 r] w fun e w' => e = .returned (.int .i64 ((stp l r).getD (-1))) ∧ Below w.heap.size w w' := by
  have HR := Aside0.mk hr
  have HK := Aside0.mk hok
  clear hr hok
  go_enter Tryd.func46, Tryd.ntmps46
  go_wp2_with fail
  refine (search_calls A0 c0 l r w.heap.size (w.heap.size + 1) _ (by simp) (by simp) (Kd.C_alloc (Kd.C_alloc HR.out _) _) hlen (okA_mono HK.out)).mono ?_
  rintro e w' ⟨i, rfl, hf, m, rfl⟩
  have HS := Aside0.mk (stp_first HK.out hf)
  have hil := hf.1
  clear hf
  by_cases hi : i < l.length
  · obtain ⟨b0, o0, rfl, hb0, hc0, hc1, hc2⟩ := at_arc HR.out i hi
    obtain ⟨z, hz⟩ : ∃ z, z = l.getD i default := ⟨_, rfl⟩
    rw [← hz] at hc0 hc1 hc2 HS
    clear hz
    have i0 : (0 : Int) ≤ (i : Int) := by omega
    have i1 : (i : Int) < (l.length : Int) := by omega
    have i1b : decide ((i : Int) < (l.length : Int)) = true := decide_eq_true i1
    by_cases hl : z.lo ≤ r
    · have hs : stp l r = some z.to := by
        rcases HS.out with ⟨_, _, g⟩ | ⟨g, _⟩
        · exact g
        · exact absurd ⟨hi, hl⟩ g
      have HS2 := Aside0.mk hs
      clear hs HS
      go_wp2_with fail
      go_quiet (fail)
      go_wp2
      go_ret
      exact ⟨by rw [HS2.out]; rfl, by repeat (first | exact Below.refl _ _ | refine pw_below_drewN ?_ _ | refine below_alloc ?_ _)⟩
    · have hs : stp l r = none := by
        rcases HS.out with ⟨_, g, _⟩ | ⟨_, g⟩
        · exact absurd g hl
        · exact g
      have HS2 := Aside0.mk hs
      clear hs HS
      have hlb : decide (z.lo ≤ r) = false := decide_eq_false hl
      go_wp2_with fail
      go_quiet (fail)
      go_wp2
      go_ret
      exact ⟨by rw [HS2.out]; rfl, by repeat (first | exact Below.refl _ _ | refine pw_below_drewN ?_ _ | refine below_alloc ?_ _)⟩
  · have hs : stp l r = none := by
      rcases HS.out with ⟨g, _, _⟩ | ⟨_, g⟩
      · exact absurd g hi
      · exact g
    have HS2 := Aside0.mk hs
    clear hs HS
    have i1b : decide ((i : Int) < (l.length : Int)) = false := decide_eq_false (by omega)
    go_wp2_with fail
    go_quiet (fail)
    go_wp2
    go_ret
    exact ⟨by rw [HS2.out]; rfl, by repeat (first | exact Below.refl _ _ | refine pw_below_drewN ?_ _ | refine below_alloc ?_ _)⟩
end Go.Proofs.YthohahcpdgebbaaDoor.Wk
namespace Go.Proofs.YthohahcpdgebbaaDoor.Wk
open Go.RowKit Go.Proofs.YthohahcpdgebbaaDoorW.PrintWords Go.Proofs.YthohahcpdgebbaaDoorW.PrintLast Go.Proofs.YthohahcpdgebbaaDoorW.PrintMore
open Go.Proofs.YthohahcpdgebbaaDoor.Th
set_option linter.unusedVariables false
set_option linter.unusedSimpArgs false
theorem character_calls (r : Int) (w : World) : Calls Tryd.prog 39 #[.int .i32 r] w fun e w' => e = .returned (.bool (decide (isC r))) ∧ w' = w := by
  by_cases h0 : 0 ≤ r
  · have b0 : decide (0 ≤ r) = true := decide_eq_true h0
    by_cases h1 : r ≤ 55295
    · have b1 : decide (r ≤ 55295) = true := decide_eq_true h1
      have HF := Aside0.mk (show decide (isC r) = true from decide_eq_true (by unfold isC; omega))
      go_enter Tryd.func39, Tryd.ntmps39
      go_wp2
      go_ret
      exact ⟨by rw [HF.out]; rfl, rfl⟩
    · have b1 : decide (r ≤ 55295) = false := decide_eq_false h1
      by_cases h2 : 57344 ≤ r
      · have b2 : decide (57344 ≤ r) = true := decide_eq_true h2
        have HF := Aside0.mk (show decide (isC r) = decide (r ≤ 1114111) from decide_eq_decide.2 (by unfold isC; omega))
        go_enter Tryd.func39, Tryd.ntmps39
        go_wp2
        go_ret
        exact ⟨by rw [HF.out]; rfl, rfl⟩
      · have b2 : decide (57344 ≤ r) = false := decide_eq_false h2
        have HF := Aside0.mk (show decide (isC r) = false from decide_eq_false (by unfold isC; omega))
        go_enter Tryd.func39, Tryd.ntmps39
        go_wp2
        go_ret
        exact ⟨by rw [HF.out]; rfl, rfl⟩
  · have b0 : decide (0 ≤ r) = false := decide_eq_false h0
    have b2 : decide (57344 ≤ r) = false := decide_eq_false (by omega)
    have HF := Aside0.mk (show decide (isC r) = false from decide_eq_false (by unfold isC; omega))
    go_enter Tryd.func39, Tryd.ntmps39
    go_wp2
    go_ret
    exact ⟨by rw [HF.out]; rfl, rfl⟩
theorem ncharacter_calls (r : Int) (w : World) : Calls Tryd.prog 61 #[.int .i32 r] w fun e w' => e = .returned (.bool (decide (isC r))) ∧ w' = w := by
  by_cases h0 : 0 ≤ r
  · have b0 : decide (0 ≤ r) = true := decide_eq_true h0
    by_cases h1 : r ≤ 1114111
    · have b1 : decide (r ≤ 1114111) = true := decide_eq_true h1
      by_cases h2 : r < 55296
      · have b2 : decide (r < 55296) = true := decide_eq_true h2
        have HF := Aside0.mk (show decide (isC r) = true from decide_eq_true (by unfold isC; omega))
        go_enter Tryd.func61, Tryd.ntmps61
        go_wp2
        go_ret
        exact ⟨by rw [HF.out]; rfl, rfl⟩
      · have b2 : decide (r < 55296) = false := decide_eq_false h2
        have HF := Aside0.mk (show decide (isC r) = decide (57343 < r) from decide_eq_decide.2 (by unfold isC; omega))
        go_enter Tryd.func61, Tryd.ntmps61
        go_wp2
        go_ret
        exact ⟨by rw [HF.out]; rfl, rfl⟩
    · have b1 : decide (r ≤ 1114111) = false := decide_eq_false h1
      have HF := Aside0.mk (show decide (isC r) = false from decide_eq_false (by unfold isC; omega))
      go_enter Tryd.func61, Tryd.ntmps61
      go_wp2
      go_ret
      exact ⟨by rw [HF.out]; rfl, rfl⟩
  · have b0 : decide (0 ≤ r) = false := decide_eq_false h0
    have HF := Aside0.mk (show decide (isC r) = false from decide_eq_false (by unfold isC; omega))
    go_enter Tryd.func61, Tryd.ntmps61
    go_wp2
    go_ret
    exact ⟨by rw [HF.out]; rfl, rfl⟩
structure RdD (w : World) (d : Dfa) (A1 : Option Addr) (c1 : Nat) (A2 : Option Addr) (c2 : Nat) : Prop where
  arcs : (Kd.slice 54 kArc).C w A1 d.arcs.length d.arcs
  labs : (Kd.int .i64).C w A2 d.labels.length d.labels
  le1 : d.arcs.length ≤ c1
  le2 : d.labels.length ≤ c2
theorem RdD.below {w w1 : World} {d : Dfa} {A1 : Option Addr} {c1 : Nat} {A2 : Option Addr} {c2 : Nat} (h : RdD w d A1 c1 A2 c2) (hb : Below w.heap.size w w1) : RdD w1 d A1 c1 A2 c2 :=
  ⟨Kd.C_below h.arcs hb, Kd.C_below h.labs hb, h.le1, h.le2⟩
theorem RdD.max {w : World} {d : Dfa} {A1 : Option Addr} {c1 : Nat} {A2 : Option Addr} {c2 : Nat} (h : RdD w d A1 c1 A2 c2) : d.arcs.length ≤ 9223372036854775807 ∧ d.labels.length ≤ 9223372036854775807 := ⟨h.arcs.2.1, h.labs.2.1⟩
def longB (d : Dfa) : Bool := decide (10 < d.arcs.length) || (decide (10 < d.labels.length) || d.arcs.any fun l => decide (8 < l.length))
theorem long_calls (d : Dfa) (A1 : Option Addr) (c1 : Nat) (A2 : Option Addr) (c2 : Nat) (w : World) (hd : RdD w d A1 c1 A2 c2) :
    Calls Tryd.prog 16 #[.agg #[.int .i64 d.start, .slice A1 d.arcs.length c1, .slice A2 d.labels.length c2]] w fun e w' => e = .returned (.bool (longB d)) ∧ Below w.heap.size w w' := by
  obtain ⟨m1, m2⟩ := hd.max
  have HD := Aside0.mk hd
  clear hd
  by_cases h1 : 10 < d.arcs.length
  · have b1 : decide ((10 : Int) < (d.arcs.length : Int)) = true := decide_eq_true (by omega)
    have HF := Aside0.mk (show longB d = true from by simp [longB, h1])
    go_enter Tryd.func16, Tryd.ntmps16
    go_wp2
    go_ret
    exact ⟨by rw [HF.out]; rfl, below_alloc (Below.refl _ _) _⟩
  · have b1 : decide ((10 : Int) < (d.arcs.length : Int)) = false := decide_eq_false (by omega)
    by_cases h2 : 10 < d.labels.length
    · have b2 : decide ((10 : Int) < (d.labels.length : Int)) = true := decide_eq_true (by omega)
      have HF := Aside0.mk (show longB d = true from by simp [longB, h2])
      go_enter Tryd.func16, Tryd.ntmps16
      go_wp2
      go_ret
      exact ⟨by rw [HF.out]; rfl, below_alloc (Below.refl _ _) _⟩
    · have b2 : decide ((10 : Int) < (d.labels.length : Int)) = false := decide_eq_false (by omega)
      go_enter Tryd.func16, Tryd.ntmps16
      go_wp2
      go_loop [3] (fun i => ∃ k : Nat, k ≤ d.arcs.length ∧ i = .int .i64 k ∧ Aside0 ((d.arcs.take k).any (fun l => decide (8 < l.length)) = false)) (fun i => d.arcs.length - (intOf i).toNat)
      case atStart => exact ⟨0, by omega, rfl, ⟨by simp⟩⟩
      case round =>
        obtain ⟨k, hk, rfl, HA⟩ := hrel
        by_cases hlt : k < d.arcs.length
        · obtain ⟨b, o, A0, c0, e, hb, hc, _, _⟩ := at_arcs HD.out.arcs k hlt
          cases e
          have hx : (d.arcs.take (k + 1)).any (fun l => decide (8 < l.length)) = decide (8 < (d.arcs.getD k []).length) := by
            rw [List.take_succ_eq_append_getElem hlt, List.any_append, HA.out, List.getD_eq_getElem?_getD, List.getElem?_eq_getElem hlt]
            simp
          have HX := Aside0.mk hx
          obtain ⟨x, hxx⟩ : ∃ x, x = d.arcs.getD k [] := ⟨_, rfl⟩
          rw [← hxx] at hc HX
          have HM := Aside0.mk (show x ∈ d.arcs from by rw [hxx, List.getD_eq_getElem?_getD, List.getElem?_eq_getElem hlt]; exact List.getElem_mem hlt)
          clear hx hxx HA
          by_cases h8 : 8 < x.length
          · have b8 : decide ((8 : Int) < (x.length : Int)) = true := decide_eq_true (by omega)
            have HF := Aside0.mk (show longB d = true from by
              unfold longB
              rw [List.any_eq_true.2 ⟨x, HM.out, decide_eq_true h8⟩]
              simp)
            go_wp2
            go_ret
            exact ⟨by rw [HF.out]; rfl, below_alloc (Below.refl _ _) _⟩
          · have b8 : decide ((8 : Int) < (x.length : Int)) = false := decide_eq_false (by omega)
            go_wp2
            go_round
            case rel => exact ⟨k + 1, by omega, by go_num, ⟨by rw [HX.out]; exact decide_eq_false h8⟩⟩
            case measure => simp [intOf]; omega
        · obtain rfl : k = d.arcs.length := by omega
          have HF := Aside0.mk (show longB d = false from by
            have := HA.out
            rw [List.take_length] at this
            simp [longB, h1, h2, this])
          go_wp2
          go_ret
          exact ⟨by rw [HF.out]; rfl, below_alloc (Below.refl _ _) _⟩
end Go.Proofs.YthohahcpdgebbaaDoor.Wk
