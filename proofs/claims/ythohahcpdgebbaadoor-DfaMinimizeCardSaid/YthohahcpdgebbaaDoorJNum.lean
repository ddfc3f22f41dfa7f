/- Proved: what a part of the given program (its deterministic automata, and the functions that they call) computes, and laws on that, under the conditions that each theorem names. -/
import Derived.Test.YthohahcpdgebbaaDoorJBs
import Derived.Test.YthohahcpdgebbaaDoorJTxt
namespace Go.Proofs.YthohahcpdgebbaaDoor.Wk
open Go.RowKit Go.Proofs.YthohahcpdgebbaaDoorW.PrintWords Go.Proofs.YthohahcpdgebbaaDoorW.PrintLast Go.Proofs.YthohahcpdgebbaaDoorW.PrintMore
open Go.Proofs.YthohahcpdgebbaaDoor.Th
set_option linter.unusedVariables false
set_option linter.unusedSimpArgs false
def kSets : Kd (List Pr) := Kd.slice 58 kPr
theorem infoSets : (Tryd.prog.info? 55).map (fun i => (i.zero, i.size, i.bytes)) = some (some (.slice none 0 0), 1, 24) := by kernel_rfl
theorem sets_E {q e : Nat} (hq : q ∈ e :: kSets.E) : q = e ∨ q = 58 := by
  simpa [kSets, Kd.slice, kPr, Kd.iso, Kd.pair, Kd.int, Kd.scalar] using hq
structure BS (w : World) (base bp mb : Nat) (lv : Value) (sets : List (List Pr)) : Prop where
  bb : base ≤ bp
  bm : base ≤ mb
  box : ∃ sv, w.heap[bp]? = some (.cells #[lv, sv, .map (some mb)] 63 (0, 0)) ∧ kSets.R 55 w base (fun _ => True) sv sets
  num : MapIs 9 litS w mb sets.length (nfun (sets.map keySet))
def Bk (o : Option Obj) : Prop := (∃ (cs : Array Value) (t : TypeId) (f : Nat × Nat), o = some (.cells cs t f) ∧ (t = 58 ∨ t = 55 ∨ t = 63)) ∨ ∃ es c, o = some (.map es c)
structure Fr (base : Nat) (w w' : World) : Prop where
  below : Below base w w'
  keep : ∀ (k : Nat) (cs : Array Value) (t : TypeId) (f : Nat × Nat), w.heap[k]? = some (.cells cs t f) → t ≠ 55 → t ≠ 63 → w'.heap[k]? = w.heap[k]?
section
variable {w w' : World} {base bp mb : Nat} {lv : Value} {sets : List (List Pr)}
theorem BS.step (h : BS w base bp mb lv sets) (hk : ∀ k : Nat, Bk w.heap[k]? → w'.heap[k]? = w.heap[k]?) : BS w' base bp mb lv sets := by
  obtain ⟨sv, hb, hr⟩ := h.box
  refine ⟨h.bb, h.bm, ⟨sv, by rw [hk bp (by rw [hb]; exact .inl ⟨_, _, _, rfl, .inr (.inr rfl)⟩)]; exact hb, ?_⟩, ?_⟩
  · refine Kd.R_mono (Kd.R_step (Kd.R_bound hr) (fun k ho hlt => ?_)) (fun _ _ => trivial)
    obtain ⟨_, _, _, q, hq, cells, hc⟩ := ho
    refine hk k ?_
    rw [hc]
    rcases sets_E hq with rfl | rfl
    · exact .inl ⟨_, _, _, rfl, .inr (.inl rfl)⟩
    · exact .inl ⟨_, _, _, rfl, .inl rfl⟩
  · refine h.num.same (fun es c hm => ?_)
    rw [hk mb (by rw [hm]; exact .inr ⟨_, _, rfl⟩)]
    exact hm
theorem BS.later (h : BS w base bp mb lv sets) (hb : Below w.heap.size w w') : BS w' base bp mb lv sets := by
  refine h.step (fun k hk => ?_)
  rcases Nat.lt_or_ge k w.heap.size with hlt | hge
  · exact hb.block k hlt
  · rw [Array.getElem?_eq_none hge] at hk
    rcases hk with ⟨_, _, _, h, _⟩ | ⟨_, _, h⟩ <;> cases h
theorem BS.other {v : Value} {t : TypeId} (h : BS w base bp mb lv sets) (hty : ∀ k, v.ownBlock = some k → ∃ cells, w.heap[k]? = some (.cells cells t (0, 0))) (h1 : t ≠ 58) (h2 : t ≠ 55) (h3 : t ≠ 63) (hg : w.grownBy w' v.ownBlock) : BS w' base bp mb lv sets := by
  refine h.step (fun k hk => ?_)
  rcases Nat.lt_or_ge k w.heap.size with hlt | hge
  · refine hg.block k hlt (fun e => ?_)
    obtain ⟨cells, hc⟩ := hty k e.symm
    rw [hc] at hk
    rcases hk with ⟨_, _, _, h, h5⟩ | ⟨_, _, h⟩
    · injection h with h
      injection h with _ h
      subst h
      rcases h5 with h5 | h5 | h5
      · exact h1 h5
      · exact h2 h5
      · exact h3 h5
    · cases h
  · rw [Array.getElem?_eq_none hge] at hk
    rcases hk with ⟨_, _, _, h, _⟩ | ⟨_, _, h⟩ <;> cases h
theorem BS.cells (h : BS w base bp mb lv sets) : ∃ A c, w.cell? ⟨bp, 0, none⟩ = some lv ∧ w.cell? ⟨bp, 1, none⟩ = some (.slice A sets.length c) ∧ w.cell? ⟨bp, 2, none⟩ = some (.map (some mb)) ∧ w.frozen? ⟨bp, 1, none⟩ = false ∧ bp < w.heap.size ∧
    w.heap[bp]? = some (.cells #[lv, .slice A sets.length c, .map (some mb)] 63 (0, 0)) ∧ kSets.R 55 w base (fun _ => True) (.slice A sets.length c) sets := by
  obtain ⟨sv, hb, hr⟩ := h.box
  obtain ⟨A, c, rfl⟩ := Kd.R_slice hr
  refine ⟨A, c, ?_, ?_, ?_, ?_, box_lt hb, hb, hr⟩ <;> simp [World.cell?, World.frozen?, hb]
theorem Fr.of (hs : base ≤ w.heap.size) (hb : Below w.heap.size w w') : Fr base w w' :=
  ⟨hb.mono hs, fun k cs t f hk _ _ => hb.block k (box_lt hk)⟩
theorem Fr.refl (w : World) : Fr base w w := ⟨Below.refl _ _, fun _ _ _ _ _ _ _ => rfl⟩
theorem Fr.trans {w2 : World} (h : Fr base w w') (h' : Fr base w' w2) : Fr base w w2 :=
  ⟨h.below.trans h'.below, fun k cs t f hk h1 h2 => by
    have e := h.keep k cs t f hk h1 h2
    rw [h'.keep k cs t f (by rw [e]; exact hk) h1 h2, e]⟩
theorem Fr.row {α : Type} {d : Kd α} {e b : Nat} {ok : Nat → Prop} {v : Value} {xs : List α} (hf : Fr base w w') (h : d.R e w b ok v xs) (ht : ∀ q ∈ e :: d.E, q ≠ 55 ∧ q ≠ 63) : d.R e w' b ok v xs :=
  Kd.R_mono (Kd.R_step (Kd.R_bound h) (fun k ho hlt => by
    obtain ⟨_, _, _, q, hq, cells, hc⟩ := ho
    exact hf.keep k _ _ _ hc (ht q hq).1 (ht q hq).2)) (fun _ hk => hk.1)
theorem Fr.cell (hf : Fr base w w') {p : Addr} {cs : Array Value} {t : TypeId} {f : Nat × Nat} (hk : w.heap[p.block]? = some (.cells cs t f)) (h1 : t ≠ 55) (h2 : t ≠ 63) : w'.heap[p.block]? = some (.cells cs t f) := by
  rw [hf.keep _ _ _ _ hk h1 h2]
  exact hk
end
theorem ix_mapG {K L : Type} [DecidableEq K] [DecidableEq L] (f : K → L) (hf : ∀ a b, f a = f b → a = b) (x : K) : ∀ l : List K, ix (l.map f) (f x) = ix l x
  | [] => rfl
  | a :: l => by
    have ih := ix_mapG f hf x l
    unfold ix at ih ⊢
    rw [List.map_cons, List.idxOf?_cons, List.idxOf?_cons, ih]
    by_cases e : a = x
    · subst e
      simp
    · have e1 : (f a == f x) = false := beq_eq_false_iff_ne.2 (fun h => e (hf _ _ h))
      have e2 : (a == x) = false := beq_eq_false_iff_ne.2 e
      rw [e1, e2]
theorem ix_map {sets : List (List Pr)} {set : List Pr} : ix (sets.map keySet) (keySet set) = ix sets set := ix_mapG keySet (fun _ _ h => keySet_inj h) set sets
theorem keySet_snoc (l : List Pr) (p : Pr) : keySet (l ++ [p]) = keySet l ++ keyP p := by simp [keySet]
def PrB (p : Pr) : Prop := -9223372036854775808 ≤ p.which ∧ p.which ≤ 9223372036854775807 ∧ -9223372036854775808 ≤ p.state ∧ p.state ≤ 9223372036854775807
theorem keyP_len {p : Pr} (h : PrB p) : (keyP p).length ≤ 44 := by
  obtain ⟨h1, h2, h3, h4⟩ := h
  have := itoa_len p.which h1 h2
  have := itoa_len p.state h3 h4
  unfold keyP
  simp
  omega
theorem two_cells {w : World} {b : Nat} {u v : Value} {t : TypeId} (h : w.heap[b]? = some (.cells #[u, v] t (0, 0))) : w.cell? ⟨b, 0, none⟩ = some u ∧ w.cell? ⟨b, 1, none⟩ = some v := by
  constructor <;> simp [World.cell?, h]
theorem bld_lt {B b : Nat} {l : List UInt8} {w : World} (h : Bld B b l w) : b < w.heap.size := (Lib.IsBuilderF.of h).elim (fun h => h.lt) (fun h => h.lt)
set_option maxHeartbeats 8000000 in
set_option maxRecDepth 100000 in
theorem number_calls (base bp mb : Nat) (lv : Value) (sets : List (List Pr)) (set : List Pr) (A1 : Option Addr) (c1 : Nat) (w : World) (hbs : BS w base bp mb lv sets) (hset : kPr.R 58 w base (fun _ => True) (.slice A1 set.length c1) set)
    (hlen : set.length ≤ 100000) (hpb : ∀ p ∈ set, PrB p) (hn : sets.length ≤ 10000) (htab : Tab w) (hbase : base ≤ w.heap.size) :
    Calls Tryd.prog 29 #[.pointer (some ⟨bp, 0, none⟩), .slice A1 set.length c1] w fun e w' => ∃ i : Nat, e = .returned (.int .i64 i) ∧ ((ix sets set = some i ∧ BS w' base bp mb lv sets) ∨ (ix sets set = none ∧ i = sets.length ∧ BS w' base bp mb lv (sets ++ [set]))) ∧ Fr base w w' := by
  obtain ⟨As, cs, x0, x1, x2, x3, hbl, hbx, hsr⟩ := hbs.cells
  have HBS := Aside0.mk hbs
  have HSET := Aside0.mk hset
  have HC := Aside0.mk (Kd.R_reads' hset).2.2
  have HPB := Aside0.mk hpb
  have HTAB := Aside0.mk htab
  have HBX := Aside0.mk hbx
  have HSR := Aside0.mk hsr
  have X0 := Aside0.mk x0
  have X1 := Aside0.mk x1
  have X2 := Aside0.mk x2
  clear hbs hset hpb htab hbx hsr x0 x1 x2 x3
  go_enter Tryd.func29, Tryd.ntmps29
  go_wp2
  go_loopw [12] (fun i wr => ∃ k : Nat, k ≤ set.length ∧ i = .int .i64 k ∧ Aside0 (Bld w.heap.size w.heap.size (keySet (set.take k)) wr) ∧ Aside0 (Below w.heap.size w wr)) (fun i _ => set.length - (intOf i).toNat)
  case atStart => exact ⟨0, Nat.zero_le _, rfl, ⟨Lib.fresh_isBuilder _ _ _⟩, ⟨below_alloc (Below.refl _ _) _⟩⟩
  case round =>
    obtain ⟨k, hk, rfl, HO, HB⟩ := hrel
    by_cases hlt : k < set.length
    · obtain ⟨b0, o0, e, hb0, hc0, hc1⟩ := at_pr (Kd.C_below HC.out HB.out) k hlt
      cases e
      have htk := take_next (default : Pr) hlt
      have hpp := HPB.out _ (getD_in default hlt)
      have hkl : (keySet (set.take k)).length ≤ 100 * (set.take k).length := keySet_len (fun p hp => Nat.le_trans (keyP_len (HPB.out p (List.mem_of_mem_take hp))) (by omega))
      rw [List.length_take] at hkl
      have hkp := keyP_len hpp
      obtain ⟨q0, q1, q2, q3⟩ := hpp
      obtain ⟨p, hp⟩ : ∃ p, p = set.getD k default := ⟨_, rfl⟩
      rw [← hp] at hc0 hc1 htk hkp q0 q1 q2 q3
      obtain ⟨out, hout⟩ : ∃ out, out = keySet (set.take k) := ⟨_, rfl⟩
      rw [← hout] at HO hkl
      have HTK := Aside0.mk (show keySet (set.take (k + 1)) = out ++ keyP p from by rw [htk, keySet_snoc, hout])
      have hol : out.length ≤ 100 * 100000 := by omega
      have HOL := Aside0.mk hol
      have i1 := itoa_len p.which q0 q1
      have i2 := itoa_len p.state q2 q3
      obtain ⟨t1, ht1⟩ : ∃ t1, t1 = Lib.itoa p.which := ⟨_, rfl⟩
      obtain ⟨t2, ht2⟩ : ∃ t2, t2 = Lib.itoa p.state := ⟨_, rfl⟩
      rw [← ht1] at i1
      rw [← ht2] at i2
      have ha1 := add_str t1 [46] (by simp; omega)
      obtain ⟨t3, ht3⟩ : ∃ t3, t3 = t1 ++ [46] := ⟨_, rfl⟩
      rw [← ht3] at ha1
      have i3 : t3.length ≤ 22 := by rw [ht3]; simp; omega
      have ha2 := add_str t3 t2 (by omega)
      obtain ⟨t4, ht4⟩ : ∃ t4, t4 = t3 ++ t2 := ⟨_, rfl⟩
      rw [← ht4] at ha2
      have i4 : t4.length ≤ 43 := by rw [ht4]; simp; omega
      have ha3 := add_str t4 [32] (by simp; omega)
      obtain ⟨t5, ht5⟩ : ∃ t5, t5 = t4 ++ [32] := ⟨_, rfl⟩
      rw [← ht5] at ha3
      have HKP := Aside0.mk (show keyP p = t5 from by rw [ht5, ht4, ht3, ht1, ht2]; simp [keyP])
      have HT1 := Aside0.mk ht1.symm
      have HT2 := Aside0.mk ht2.symm
      clear ht1 ht2 ht3 ht4 ht5
      have HKL := Aside0.mk hkp
      clear htk hkl hkp hp hout hol
      go_wp2_with fail
      have z0 : Below w.heap.size w ((wr.alloc (.cells #[.int .i64 p.which, .int .i64 p.state] 58)).drew) := (below_alloc HB.out _).drew
      have zB : Bld w.heap.size w.heap.size out ((wr.alloc (.cells #[.int .i64 p.which, .int .i64 p.state] 58)).drew) := bld_later HO.out ((below_alloc (Below.refl _ _) _).drew)
      have zH : ((wr.alloc (.cells #[.int .i64 p.which, .int .i64 p.state] 58)).drew).heap[wr.heap.size]? = some (.cells #[.int .i64 p.which, .int .i64 p.state] 58 (0, 0)) := heap_alloc_new _ _
      have z1 := (two_cells zH).1
      have z2 := (two_cells zH).2
      have hwb := HB.out.size
      have hwo : wr.heap.size ≠ w.heap.size := by have := bld_lt HO.out; omega
      go_region_held3 (fun w' => Below w.heap.size w w' ∧ w'.cell? ⟨wr.heap.size, 0, none⟩ = some (.int .i64 p.which) ∧ w'.cell? ⟨wr.heap.size, 1, none⟩ = some (.int .i64 p.state))
        (first | exact ⟨z0, z1, z2⟩)
        (first
          | (go_at_call 63; refine (itoa_calls _ (by assumption) (by assumption) _ (HTAB.out.later z0)).mono ?_; rintro e w5 ⟨rfl, hb5⟩; (first | rw [HT1.out] | rw [HT2.out]); have zH := (hb5.block _ (box_lt zH)).trans zH; have z1 := (two_cells zH).1; have z2 := (two_cells zH).2; have zB := bld_later zB hb5; have z0 := z0.trans (hb5.mono z0.size))
          | (go_at_call 62; refine (writeStringF_calls w.heap.size w.heap.size _ ⟨t5.toArray⟩ _ zB (by have h1 := HOL.out; have h2 := HKL.out; rw [HKP.out] at h2; simp [Lib.byteCells, ByteArray.size] at h2 ⊢; omega) z0.size).mono ?_; rintro e w7 ⟨rfl, hq, hbq, hoq⟩; have zq : Bld w.heap.size w.heap.size (out ++ keyP p) w7 := .inr (by rw [← byteCells_app, HKP.out]; exact hq); have zH := hoq _ _ zH hwo (fun c f e => by injection e with _ e; exact absurd e (by decide)); have z1 := (two_cells zH).1; have z2 := (two_cells zH).2; have z0 := z0.trans hbq; clear zB))
      all_goals (go_wp2; go_roundw; (case rel => exact ⟨k + 1, by omega, by go_num, ⟨by rw [HTK.out]; exact zq⟩, ⟨z0⟩⟩); (case measure => simp [intOf]; omega))
    · obtain rfl : k = set.length := by omega
      rw [List.take_length] at HO
      have hkl : (keySet set).length ≤ 100 * set.length := keySet_len (fun p hp => Nat.le_trans (keyP_len (HPB.out p hp)) (by omega))
      have hix := ix_map (sets := sets) (set := set)
      obtain ⟨key, hke⟩ : ∃ key, key = keySet set := ⟨_, rfl⟩
      rw [← hke] at HO hkl hix
      have HKE := Aside0.mk hke
      have hkey := keyS_of (k := key) (by omega)
      have z0 : Below w.heap.size w wr.drew := HB.out.drew
      have zF : Lib.IsBuilderF 100 5 w.heap.size w.heap.size (Lib.byteCells key) wr.drew := Lib.IsBuilderF.of (bld_later HO.out (below_drew (Below.refl _ _)))
      have z2 : wr.drew.cell? ⟨bp, 2, none⟩ = some (.map (some mb)) := (z0.cell (p := ⟨bp, 2, none⟩) hbl).trans X2.out
      have HKEY := Aside0.mk hkey
      clear hke hkl hkey
      cases hs : ix sets set with
      | some i =>
        rw [hs] at hix
        have HNH := Aside0.mk (nfun_hit hix)
        have HS := Aside0.mk hs
        clear hs hix
        go_wp2_with fail
        go_region_held3 (fun w' => w'.cell? ⟨bp, 2, none⟩ = some (.map (some mb)))
          (first | exact z2)
          (first
            | (go_at_call 64; refine (Tryd.Builder_String_any_f w.heap.size w.heap.size key _ zF z0.size).mono ?_; rintro e w5 ⟨rfl, hF5, hb5⟩; have z0 := z0.trans hb5; have zF := hF5; have z2 := (hb5.cell (p := ⟨bp, 2, none⟩) hbl).trans z2; have hlk := (HBS.out.num.later z0).hit keyedS Tryd.underlying60 HKEY.out HNH.out))
        all_goals (go_wp2; go_ret; exact ⟨i, rfl, .inl ⟨HS.out, HBS.out.later z0⟩, Fr.of hbase z0⟩)
      | none =>
        rw [hs] at hix
        have HNM := Aside0.mk (nfun_miss hix)
        have HFN := Aside0.mk (nfun_snoc hix)
        have HS := Aside0.mk hs
        clear hs hix
        go_wp2_with fail
        go_region_held3 (fun w' => w'.cell? ⟨bp, 2, none⟩ = some (.map (some mb)))
          (first | exact z2)
          (first
            | (go_at_call 64; refine (Tryd.Builder_String_any_f w.heap.size w.heap.size key _ zF z0.size).mono ?_; rintro e w5 ⟨rfl, hF5, hb5⟩; have z0 := z0.trans hb5; have zF := hF5; have z2 := (hb5.cell (p := ⟨bp, 2, none⟩) hbl).trans z2; have hlk := (HBS.out.num.later z0).miss keyedS Tryd.underlying60 HKEY.out HNM.out))
        all_goals
          clear hlk
          have z1 := (z0.cell (p := ⟨bp, 1, none⟩) hbl).trans X1.out
          go_wp2_with fail
          have y0 := z0.drew
          have yF : Lib.IsBuilderF 100 5 w.heap.size w.heap.size (Lib.byteCells key) w5.drew := zF
          have y2 : w5.drew.cell? ⟨bp, 2, none⟩ = some (.map (some mb)) := z2
          clear zF z2 z1 z0
          go_region_held3 (fun w' => w'.cell? ⟨bp, 2, none⟩ = some (.map (some mb)))
            (first | exact y9 | exact y2)
            (first
              | (go_at_call 64; refine (Tryd.Builder_String_any_f w.heap.size w.heap.size key _ yF y0.size).mono ?_; rintro e w6 ⟨rfl, hF6, hb6⟩; have y0 := y0.trans hb6; have y2 := (hb6.cell (p := ⟨bp, 2, none⟩) hbl).trans y2; obtain ⟨w9, hrun, hm9, hg9⟩ := (HBS.out.num.later y0).upd litS_key litS_inj keyedS Tryd.underlying60 (by rw [List.length_map] at *; omega) HKEY.out HNM.out (v := (sets.length : Int)) (WalkArith.wf_i64 (by omega)); have y9 := hg9.cell y2 (by have := (HBS.out.num.later y0).ne_cells (w := w6) (by rw [y0.block bp hbl]; exact HBX.out); intro e; injection e with e; exact this e)))
          all_goals
            have hne := (HBS.out.num.later y0).ne_cells (w := w6) (by rw [y0.block bp hbl]; exact HBX.out)
            have hbx9 : w9.heap[bp]? = some (.cells #[lv, .slice As sets.length cs, .map (some mb)] 63 (0, 0)) := by
              rw [hg9.block bp (Nat.lt_of_lt_of_le hbl y0.size) (fun e => hne (by injection e)), y0.block bp hbl]
              exact HBX.out
            have mapNe : ∀ {q t : Nat} {cells : Array Value}, w6.heap[q]? = some (.cells cells t (0, 0)) → q ≠ mb := fun hq => (HBS.out.num.later y0).ne_cells hq
            have hsr9 := row_map (Kd.R_below HSR.out y0) mapNe hg9
            have hset9 := row_map (Kd.R_below (Kd.R_tight rfl HSET.out) y0) mapNe hg9
            have hb9 : Below base w w9 := (y0.mono hbase).grown hg9 (Nat.le_trans hbase y0.size) (fun q hq => by injection hq with hq; rw [← hq]; exact HBS.out.bm)
            have hsz9 : w.heap.size ≤ w9.heap.size := Nat.le_trans y0.size hg9.size
            have hok9 : ∀ k, some k = (Value.slice A1 set.length c1).ownBlock → True ∧ some k ≠ (Value.slice As sets.length cs).ownBlock := fun k hk => by
              obtain ⟨cells, hc⟩ := Kd.R_typed hset9 k hk.symm
              exact ⟨trivial, Kd.R_ne hsr9 hc (by decide)⟩
            have x91 : w9.cell? ⟨bp, 1, none⟩ = some (.slice As sets.length cs) := by simp [World.cell?, hbx9]
            have HFR := Aside0.mk (show Fr base w w9 from ⟨hb9, fun k cs t f hk h1 h2 => by
              rw [hg9.block k (Nat.lt_of_lt_of_le (box_lt hk) y0.size) (fun e => by
                injection e with e
                have hkk := y0.block k (box_lt hk)
                rw [hk] at hkk
                exact (HBS.out.num.later y0).ne_cells hkk e), y0.block k (box_lt hk)]⟩)
            have HM9 := Aside0.mk hm9
            have HBX9 := Aside0.mk hbx9
            have HSR9 := Aside0.mk hsr9
            have HSET9 := Aside0.mk hset9
            have HOK9 := Aside0.mk hok9
            have HSZ9 := Aside0.mk hsz9
            have HB9 := Aside0.mk hb9
            have HBB := Aside0.mk HBS.out.bb
            clear hrun hm9 hg9 hne hbx9 mapNe hsr9 hset9 hb9 hsz9 hok9 y9 y2 y0 yF hF6 hb6 hF5 hb5 HO
            go_wp2_with (at_builtin; go_loud (refine Kd.R_append kSets (w0 := w) base rfl _ _ 61 55 (.slice none 0 0) 24 rfl Tryd.underlying61 infoSets rfl (by decide) (by decide) (.slice As sets.length cs) sets set [.slice A1 set.length c1] (fun _ => True) (fun q => some q = (Value.slice A1 set.length c1).ownBlock) rfl (by first | (go_simp; done) | (go_simp; rfl)) ⟨_, rfl, HSET9.out⟩ HOK9.out (fun _ _ => trivial) ?aO ?aB ?aS ?aL ?_; (case aO => exact HSR9.out); (case aB => exact HB9.out); (case aS => have := HSZ9.out; omega); (case aL => omega); intro v1 w10 hR10 hB10 hg10 hat10; obtain ⟨A9, c9, rfl⟩ := Kd.R_slice hR10; have hbx10 : w10.heap[bp]? = some (.cells #[lv, .slice As sets.length cs, .map (some mb)] 63 (0, 0)) := (by rw [hg10.block bp (box_lt HBX9.out) (Kd.R_ne HSR9.out HBX9.out (by decide))]; exact HBX9.out); have x10 : w10.cell? ⟨bp, 1, none⟩ = some (.slice As sets.length cs) := (by simp [World.cell?, hbx10]); have x11 : w10.frozen? ⟨bp, 1, none⟩ = false := (by simp [World.frozen?, hbx10]); have HR10 := Aside0.mk hR10; have HB10 := Aside0.mk hB10; have HG10 := Aside0.mk hg10; have HBX10 := Aside0.mk hbx10; clear hR10 hB10 hg10 hat10 hbx10))
            go_wp2
            go_ret
            refine ⟨sets.length, rfl, .inr ⟨HS.out, rfl, ⟨HBB.out, HBS.out.bm, ⟨.slice A9 (sets ++ [set]).length c9, ?_, ?_⟩, ?_⟩⟩, ?_⟩
            · simp [World.setCell, Array.getElem?_modify, HBX10.out]
            · exact Kd.R_set HR10.out HBX10.out (fun q hq => by rcases sets_E hq with h | h <;> rw [h] <;> decide) 1 _
            · have hm10 := HM9.out.kept HG10.out (fun e => by
                obtain ⟨cells, hc⟩ := Kd.R_typed HSR9.out mb e.symm
                exact HM9.out.ne_cells hc rfl)
              have hm11 := hm10.setCell (p := ⟨bp, 1, none⟩) (Ne.symm (hm10.ne_cells HBX10.out)) (.slice A9 (sets ++ [set]).length c9)
              have e2 : (sets ++ [set]).length = sets.length + 1 := by simp
              rw [e2] at hm11 ⊢
              rw [List.map_append, List.map_singleton, ← HKE.out, ← HFN.out, List.length_map]
              exact hm11
            · refine HFR.out.trans ⟨?_, fun k cs t f hk h1 h2 => ?_⟩
              · exact ((Below.refl _ _).grown HG10.out (Nat.le_trans hbase HSZ9.out) (Kd.R_base HSR9.out)).setCell (p := ⟨bp, 1, none⟩) HBB.out _
              · rw [Below.heap_setCell _ _ _ _ (fun e => by
                  rw [e, HBX9.out] at hk
                  injection hk with hk
                  injection hk with _ hk
                  exact h2 hk.symm), HG10.out.block k (box_lt hk) (fun e => by
                  obtain ⟨cells, hc⟩ := Kd.R_typed HSR9.out k e.symm
                  rw [hk] at hc
                  injection hc with hc
                  injection hc with _ hc
                  exact h1 hc)]
end Go.Proofs.YthohahcpdgebbaaDoor.Wk
