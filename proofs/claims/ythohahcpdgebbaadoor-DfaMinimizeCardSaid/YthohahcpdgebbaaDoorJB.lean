/- Proved: what a part of the given program (its deterministic automata, and the functions that they call) computes, and laws on that, under the conditions that each theorem names. -/
import Derived.Test.YthohahcpdgebbaaDoorJT
import Derived.Test.YthohahcpdgebbaaDoorJA
import Derived.Test.YthohahcpdgebbaaDoorJW
namespace Go.Proofs.YthohahcpdgebbaaDoor.Th
theorem stp_arc {n : Int} : ∀ {l : List Arc} {b : Int} {a : Arc}, okA n b l → a ∈ l → isC a.lo ∧ stp l a.lo = some a.to
  | [], _, _, _, h => by cases h
  | x :: l, b, a, ⟨h1, h2, h3, h4, h5, h6, h7⟩, h => by
    rcases List.mem_cons.1 h with rfl | h
    · refine ⟨h2, ?_⟩
      simp only [stp]
      rw [if_pos ⟨Int.le_refl _, h4⟩]
    · obtain ⟨g1, g2⟩ := stp_arc h7 h
      refine ⟨g1, ?_⟩
      obtain ⟨_, _, g3⟩ := stp_range h7 g2
      simp only [stp]
      rw [if_neg (by omega)]
      exact g2
theorem stp_mem : ∀ {l : List Arc} {r t : Int}, stp l r = some t → ∃ a ∈ l, a.to = t
  | [], _, _, h => by cases h
  | x :: l, r, t, h => by
    simp only [stp] at h
    split at h
    · injection h with h
      exact ⟨x, List.mem_cons_self .., h⟩
    · obtain ⟨a, ha, ht⟩ := stp_mem h
      exact ⟨a, List.mem_cons_of_mem _ ha, ht⟩
def isPred (d : Dfa) (p t : Int) : Prop := ∃ a ∈ d.arc p, a.to = t
theorem Live.pred {d : Dfa} (hd : Ok d) {p t : Int} (h : isPred d p t) (hl : Live d t) : Live d p := by
  obtain ⟨a, ha, rfl⟩ := h
  obtain ⟨h1, h2⟩ := stp_arc (hd.arc_ok p) ha
  exact hl.back h1 h2
theorem Live.lab {d : Dfa} {s : Int} (h : d.lab s ≠ -1) : Live d s := ⟨[], allC_nil, h⟩
def BkOk (d : Dfa) (bk : List (List Int)) : Prop := bk.length = d.n ∧ ∀ t : Nat, t < d.n → ∀ p : Int, p ∈ bk.getD t [] ↔ ∃ s : Nat, s < d.n ∧ p = s ∧ isPred d s t
structure BkInv (d : Dfa) (M : Nat) (k j : Nat) (bk : List (List Int)) : Prop where
  len : bk.length = d.n
  mem : ∀ t : Nat, t < d.n → ∀ p : Int, p ∈ bk.getD t [] ↔ ∃ s : Nat, p = s ∧ ((s < k ∧ ∃ a ∈ d.arc s, a.to = t) ∨ (s = k ∧ ∃ a ∈ (d.arc k).take j, a.to = t))
  size : ∀ t : Nat, (bk.getD t []).length ≤ k * M + j
def pushB (bk : List (List Int)) (t s : Int) : List (List Int) := bk.set t.toNat (bk.getD t.toNat [] ++ [s])
theorem bkInv_start (d : Dfa) (M : Nat) : BkInv d M 0 0 (List.replicate d.n []) := by
  refine ⟨by simp, fun t ht p => ?_, fun t => ?_⟩
  · rw [List.getD_eq_getElem?_getD, List.getElem?_replicate]
    simp [ht]
  · rw [List.getD_eq_getElem?_getD, List.getElem?_replicate]
    split <;> simp
theorem getD_set {α : Type} (l : List α) (i j : Nat) (x z : α) : (l.set i x).getD j z = if i = j ∧ i < l.length then x else l.getD j z := by
  rw [List.getD_eq_getElem?_getD, List.getD_eq_getElem?_getD, List.getElem?_set]
  by_cases h : i = j
  · subst h
    by_cases h2 : i < l.length
    · simp [h2]
    · simp [h2]
  · simp [h]
theorem bkInv_push {d : Dfa} (hd : Ok d) {M k j : Nat} {bk : List (List Int)} (h : BkInv d M k j bk) (hj : j < (d.arc k).length) :
    BkInv d M k (j + 1) (pushB bk ((d.arc k).getD j default).to k) := by
  have hm : (d.arc k).getD j default ∈ d.arc k := by rw [List.getD_eq_getElem?_getD, List.getElem?_eq_getElem hj]; exact List.getElem_mem hj
  have hr : 0 ≤ ((d.arc k).getD j default).to ∧ ((d.arc k).getD j default).to < d.n := by
    obtain ⟨_, h2⟩ := stp_arc (hd.arc_ok k) hm
    obtain ⟨a, b, _⟩ := stp_range (hd.arc_ok k) h2
    exact ⟨a, b⟩
  have ht : (d.arc k).take (j + 1) = (d.arc k).take j ++ [(d.arc k).getD j default] := by
    rw [List.take_succ_eq_append_getElem hj, List.getD_eq_getElem?_getD, List.getElem?_eq_getElem hj]; rfl
  obtain ⟨t0, e⟩ : ∃ t0, t0 = ((d.arc k).getD j default).to := ⟨_, rfl⟩
  refine ⟨by simp [pushB, h.len], fun t htn p => ?_, fun t => ?_⟩
  · unfold pushB
    rw [getD_set, ht]
    have hml := h.mem t htn p
    by_cases he : ((d.arc k).getD j default).to.toNat = t
    · rw [if_pos ⟨he, by rw [h.len]; omega⟩, he]
      rw [List.mem_append, hml]
      constructor
      · rintro (⟨s, hs, h1 | ⟨h1, a, ha, hat⟩⟩ | hp)
        · exact ⟨s, hs, .inl h1⟩
        · exact ⟨s, hs, .inr ⟨h1, a, List.mem_append_left _ ha, hat⟩⟩
        · exact ⟨k, List.mem_singleton.1 hp, .inr ⟨rfl, _, List.mem_append_right _ (List.mem_singleton.2 rfl), by omega⟩⟩
      · rintro ⟨s, hs, h1 | ⟨h1, a, ha, hat⟩⟩
        · exact .inl ⟨s, hs, .inl h1⟩
        · rcases List.mem_append.1 ha with ha | ha
          · exact .inl ⟨s, hs, .inr ⟨h1, a, ha, hat⟩⟩
          · exact .inr (List.mem_singleton.2 (by rw [hs, h1]))
    · rw [if_neg (fun hh => he hh.1), hml]
      constructor
      · rintro ⟨s, hs, h1 | ⟨h1, a, ha, hat⟩⟩
        · exact ⟨s, hs, .inl h1⟩
        · exact ⟨s, hs, .inr ⟨h1, a, List.mem_append_left _ ha, hat⟩⟩
      · rintro ⟨s, hs, h1 | ⟨h1, a, ha, hat⟩⟩
        · exact ⟨s, hs, .inl h1⟩
        · rcases List.mem_append.1 ha with ha | ha
          · exact ⟨s, hs, .inr ⟨h1, a, ha, hat⟩⟩
          · exfalso
            rw [List.mem_singleton.1 ha] at hat
            omega
  · unfold pushB
    rw [getD_set]
    split
    · have := h.size ((d.arc k).getD j default).to.toNat
      rw [List.length_append, List.length_singleton]; omega
    · have := h.size t
      omega
theorem bkInv_next {d : Dfa} {M k : Nat} {bk : List (List Int)} (h : BkInv d M k (d.arc k).length bk) (hM : (d.arc k).length ≤ M) : BkInv d M (k + 1) 0 bk := by
  refine ⟨h.len, fun t ht p => ?_, fun t => ?_⟩
  · rw [h.mem t ht p]
    constructor
    · rintro ⟨s, hs, ⟨h1, h2⟩ | ⟨h1, a, ha, hat⟩⟩
      · exact ⟨s, hs, .inl ⟨by omega, h2⟩⟩
      · subst h1
        exact ⟨s, hs, .inl ⟨by omega, a, by rwa [List.take_length] at ha, hat⟩⟩
    · rintro ⟨s, hs, ⟨h1, a, ha, hat⟩ | ⟨_, a, ha, _⟩⟩
      · rcases Nat.lt_or_ge s k with hh | hh
        · exact ⟨s, hs, .inl ⟨hh, a, ha, hat⟩⟩
        · obtain rfl : s = k := by omega
          exact ⟨s, hs, .inr ⟨rfl, a, by rwa [List.take_length], hat⟩⟩
      · simp at ha
  · have := h.size t
    rw [Nat.succ_mul]
    omega
theorem bkInv_end {d : Dfa} {M : Nat} {bk : List (List Int)} (h : BkInv d M d.n 0 bk) : BkOk d bk := by
  refine ⟨h.len, fun t ht p => ?_⟩
  rw [h.mem t ht p]
  constructor
  · rintro ⟨s, hs, ⟨h1, h2⟩ | ⟨_, a, ha, _⟩⟩
    · exact ⟨s, h1, hs, h2⟩
    · simp at ha
  · rintro ⟨s, h1, hs, h2⟩
    exact ⟨s, hs, .inl ⟨h1, h2⟩⟩
def markB (bs : List Bool) (s : Int) : List Bool := if bs.getD s.toNat false then bs else bs.set s.toNat true
def markT (bs : List Bool) (ts : List Int) (s : Int) : List Int := if bs.getD s.toNat false then ts else ts ++ [s]
structure MInv (d : Dfa) (bs : List Bool) (ts : List Int) (ex : Int → Prop) : Prop where
  len : bs.length = d.n
  sound : ∀ s : Nat, bs.getD s false = true → Live d s
  todo : ∀ t ∈ ts, 0 ≤ t ∧ t < d.n ∧ bs.getD t.toNat false = true
  closed : ∀ t : Nat, bs.getD t false = true → (t : Int) ∉ ts → ¬ ex t → ∀ p : Nat, p < d.n → isPred d p t → bs.getD p false = true
  cnt : ts.length + bs.count false ≤ d.n
theorem mInv_start (d : Dfa) (ex : Int → Prop) : MInv d (List.replicate d.n false) [] ex := by
  have h0 : ∀ s : Nat, (List.replicate d.n false).getD s false = true → False := by
    intro s hs
    rw [List.getD_eq_getElem?_getD, List.getElem?_replicate] at hs
    split at hs <;> simp at hs
  exact ⟨by simp, fun s hs => (h0 s hs).elim, (fun t ht => by cases ht), fun t ht => (h0 t ht).elim, by simp⟩
theorem count_set_true : ∀ (bs : List Bool) (i : Nat), i < bs.length → bs.getD i false = false → (bs.set i true).count false + 1 = bs.count false
  | b :: bs, 0, _, h => by
    have : b = false := by simpa using h
    subst this
    simp
  | b :: bs, i + 1, h, hf => by
    have := count_set_true bs i (by simpa using h) (by simpa using hf)
    simp only [List.set_cons_succ, List.count_cons]
    omega
theorem mark_mono {bs : List Bool} {s : Int} {t : Nat} (h : bs.getD t false = true) : (markB bs s).getD t false = true := by
  unfold markB
  split
  · exact h
  · rw [getD_set]
    split
    · rfl
    · exact h
theorem mark_self {bs : List Bool} {s : Int} (h : s.toNat < bs.length) : (markB bs s).getD s.toNat false = true := by
  unfold markB
  split
  · assumption
  · rw [getD_set, if_pos ⟨rfl, h⟩]
theorem mInv_mark {d : Dfa} {bs : List Bool} {ts : List Int} {ex : Int → Prop} (h : MInv d bs ts ex) {s : Int} (h0 : 0 ≤ s) (h1 : s < d.n) (hl : Live d s) : MInv d (markB bs s) (markT bs ts s) ex ∧
    2 * (markB bs s).count false + (markT bs ts s).length ≤ 2 * bs.count false + ts.length := by
  by_cases hb : bs.getD s.toNat false = true
  · have e1 : markB bs s = bs := by unfold markB; rw [if_pos hb]
    have e2 : markT bs ts s = ts := by unfold markT; rw [if_pos hb]
    rw [e1, e2]
    exact ⟨h, Nat.le_refl _⟩
  · have hb' : bs.getD s.toNat false = false := by simpa using hb
    have e1 : markB bs s = bs.set s.toNat true := by unfold markB; rw [if_neg hb]
    have e2 : markT bs ts s = ts ++ [s] := by unfold markT; rw [if_neg hb]
    have hlt : s.toNat < bs.length := by rw [h.len]; omega
    have hc := count_set_true bs s.toNat hlt hb'
    have hmono := fun (t : Nat) (ht : bs.getD t false = true) => mark_mono (s := s) ht
    rw [e1] at hmono
    rw [e1, e2]
    refine ⟨⟨by simp [h.len], fun t ht => ?_, fun t ht => ?_, fun t ht hn he p hp hpr => ?_, ?_⟩, ?_⟩
    · rw [getD_set] at ht
      split at ht
      · rename_i hh
        have : (t : Int) = s := by omega
        rw [this]
        exact hl
      · exact h.sound t ht
    · rcases List.mem_append.1 ht with ht | ht
      · obtain ⟨a, b, c⟩ := h.todo t ht
        exact ⟨a, b, hmono _ c⟩
      · rw [List.mem_singleton.1 ht]
        exact ⟨h0, h1, by rw [getD_set, if_pos ⟨rfl, hlt⟩]⟩
    · rw [getD_set] at ht
      split at ht
      · rename_i hh
        exact absurd (List.mem_append_right _ (List.mem_singleton.2 (by omega))) hn
      · exact hmono _ (h.closed t ht (fun hh => hn (List.mem_append_left _ hh)) he p hp hpr)
    · have := h.cnt
      simp
      omega
    · simp
      omega
theorem mInv_pop {d : Dfa} {bs : List Bool} {ts : List Int} {s : Int} {ex : Int → Prop} (h : MInv d bs (ts ++ [s]) ex) : MInv d bs ts (fun t => ex t ∨ t = s) :=
  ⟨h.len, h.sound, fun t ht => h.todo t (List.mem_append_left _ ht), fun t ht hn he p hp hpr => h.closed t ht (fun hh => by
    rcases List.mem_append.1 hh with hh | hh
    · exact hn hh
    · exact he (.inr (List.mem_singleton.1 hh))) (fun hx => he (.inl hx)) p hp hpr, by have := h.cnt; simp at this; omega⟩
theorem mInv_done {d : Dfa} {bs : List Bool} {ts : List Int} {s : Int} {ex : Int → Prop} (h : MInv d bs ts (fun t => ex t ∨ t = s)) (hp : ∀ p : Nat, p < d.n → isPred d p s → bs.getD p false = true) : MInv d bs ts ex :=
  ⟨h.len, h.sound, h.todo, fun t ht hn he p hpn hpr => by
    by_cases e : (t : Int) = s
    · rw [e] at hpr
      exact hp p hpn hpr
    · exact h.closed t ht hn (fun hx => hx.elim he e) p hpn hpr, h.cnt⟩
theorem mInv_end {d : Dfa} (hd : Ok d) {bs : List Bool} (h : MInv d bs [] (fun _ => False)) (hlab : ∀ s : Nat, s < d.n → d.lab s ≠ -1 → bs.getD s false = true) : bs.length = d.n ∧ ∀ s : Nat, s < d.n → (bs.getD s false = true ↔ Live d s) := by
  refine ⟨h.len, fun s hs => ⟨h.sound s, ?_⟩⟩
  rintro ⟨w, hw, hr⟩
  induction w generalizing s with
  | nil => exact hlab s hs hr
  | cons r w ih =>
    cases hst : stp (d.arc s) r with
    | none => rw [run_cons_none hst] at hr; exact absurd rfl hr
    | some t =>
      rw [run_cons_some hst] at hr
      obtain ⟨t0, t1, _⟩ := stp_range (hd.arc_ok s) hst
      obtain ⟨m, rfl⟩ := Int.eq_ofNat_of_zero_le t0
      have := ih m (by omega) (allC_cons.1 hw).2 hr
      exact h.closed m this (by simp) (fun h => h) s hs (stp_mem hst)
end Go.Proofs.YthohahcpdgebbaaDoor.Th
namespace Go.Proofs.YthohahcpdgebbaaDoor.Wk
open Go.RowKit Go.Proofs.YthohahcpdgebbaaDoorW.PrintWords Go.Proofs.YthohahcpdgebbaaDoorW.PrintLast Go.Proofs.YthohahcpdgebbaaDoorW.PrintMore
open Go.Proofs.YthohahcpdgebbaaDoor.Th
set_option linter.unusedVariables false
set_option linter.unusedSimpArgs false
def kInts : Kd (List Int) := Kd.slice 3 (Kd.int .i64)
theorem bk_push {W : World} {base g n cap : Nat} {bk : List (List Int)} (h : Kd.S kInts 26 W base (fun _ => True) (.slice (some ⟨g, 0, none⟩) n cap) bk) (t : Int) (h0 : 0 ≤ t) (h1 : t < n) :
    ∃ (oki : Nat → Prop) (A : Option Addr) (c : Nat), W.cell? ⟨g, t.toNat, none⟩ = some (.slice A (bk.getD t.toNat []).length c) ∧
      (Kd.int .i64).R 3 W base oki (.slice A (bk.getD t.toNat []).length c) (bk.getD t.toNat []) ∧ some g ≠ (Value.slice A (bk.getD t.toNat []).length c).ownBlock ∧
      ∀ (W1 : World) (v1 : Value) (s : Int), W.heap.size ≤ W1.heap.size → (∀ k, k < W.heap.size → some k ≠ (Value.slice A (bk.getD t.toNat []).length c).ownBlock → W1.heap[k]? = W.heap[k]?) →
        (Kd.int .i64).R 3 W1 base (fun k => oki k ∨ W.heap.size ≤ k) v1 (bk.getD t.toNat [] ++ [s]) →
        (∃ u, W1.cell? ⟨g, t.toNat, none⟩ = some u) ∧ W1.frozen? ⟨g, t.toNat, none⟩ = false ∧ Kd.S kInts 26 (W1.setCell ⟨g, t.toNat, none⟩ v1) base (fun _ => True) (.slice (some ⟨g, 0, none⟩) n cap) (pushB bk t s) ∧ base ≤ g := by
  have hgs : g < W.heap.size := by
    have := Kd.S_lt h g (by simp [Value.ownBlock])
    exact this
  have hgb : base ≤ g := Kd.S_base h g (by simp [Value.ownBlock])
  obtain ⟨oki, c, hcl, hM, hcc, hfr, hoki, hH⟩ := Kd.S_elem h [] t h0 h1
  obtain ⟨v, rfl, hR⟩ := hM
  obtain ⟨A, c0, rfl⟩ := Kd.R_slice hR
  have hc0 := hcc 0 _ rfl
  have e1 : t.toNat * kInts.sz + 0 = t.toNat := by show t.toNat * 1 + 0 = _; omega
  rw [e1] at hc0
  have hne : some g ≠ (Value.slice A (bk.getD t.toNat []).length c0).ownBlock := fun he => (hoki g (hR.1 g he.symm)).2 rfl
  refine ⟨oki, A, c0, hc0, hR, hne, fun W1 v1 s hsz hkeep hR1 => ?_⟩
  have hH1 := Kd.H_step (Kd.H_widen hH) (w1 := W1) (fun k _ hn hlt => hkeep k hlt (fun he => hn (.inl (hR.1 k he.symm))))
  obtain ⟨rows, _, hraw, _, _, hcc1, _⟩ := Kd.H_raw hH1 h0 h1
  obtain ⟨_, _, _, _, hfr1⟩ := Kd.R_elem hraw [] t h0 h1
  have hf1 := hfr1 0
  have e2 : t.toNat * (Kd.raw kInts.sz).sz + 0 = t.toNat := e1
  rw [e2] at hf1
  have hd1 := hcc1 0 _ rfl
  rw [e1] at hd1
  obtain ⟨hs1, hg1⟩ := Kd.H_seg hH1 h0 h1 (seg := [v1]) (j := 0) (by show 0 + 1 ≤ 1; omega) (fun q hq => by
    rw [List.mem_singleton.1 hq]
    obtain ⟨A1, c1, rfl⟩ := Kd.R_slice hR1
    rfl)
  rw [e1] at hs1 hg1
  refine ⟨⟨_, hd1⟩, hf1, ?_, hgb⟩
  have hM1 : kInts.M (W1.setCells g t.toNat [v1]) base (fun k => oki k ∨ W.heap.size ≤ k) (bk.getD t.toNat [] ++ [s]) ([] ++ [v1] ++ []) :=
    ⟨v1, rfl, Kd.R_step hR1 (fun k hk hlt => hg1.block k hlt (fun he => by
      injection he with he
      subst he
      rcases hk with hk | hk
      · exact (hoki k hk).2 rfl
      · omega))⟩
  exact Kd.H_back hs1 hM1 (fun k hk => hk.elim .inl (fun h2 => .inr ⟨trivial, h2⟩))
theorem ints_R {W1 : World} {base gg cap1 H H' : Nat} {xs : List Int} {s : Int} {oki : Nat → Prop} {v : Value} (hown1 : W1.ownsRow base 3 1 (.slice (some ⟨gg, 0, none⟩) (xs.length + 1) cap1) (xs.length + 1) (encs (Value.int .i64) xs ++ [.int .i64 s]))
    (hat : v.ownBlock = some gg ∨ gg = H') (hv : ∀ k, v.ownBlock = some k → oki k) (hH : H ≤ H') : (Kd.int .i64).R 3 W1 base (fun k => oki k ∨ H ≤ k) (.slice (some ⟨gg, 0, none⟩) (xs.length + 1) cap1) (xs ++ [s]) := by
  refine Kd.R_of_own (enc := Value.int .i64) (xs := xs ++ [s]) (by simpa [encs] using hown1) (fun k hk => ?_)
  have : gg = k := by simpa [Value.ownBlock] using hk
  subst this
  rcases hat with hat | hat
  · exact .inl (hv gg hat)
  · exact .inr (by omega)
end Go.Proofs.YthohahcpdgebbaaDoor.Wk
namespace Go.Proofs.YthohahcpdgebbaaDoor.Wk
open Go.RowKit Go.Proofs.YthohahcpdgebbaaDoorW.PrintWords Go.Proofs.YthohahcpdgebbaaDoorW.PrintLast Go.Proofs.YthohahcpdgebbaaDoorW.PrintMore
open Go.Proofs.YthohahcpdgebbaaDoor.Th
set_option linter.unusedVariables false
set_option linter.unusedSimpArgs false
theorem infoBool : (Tryd.prog.info? 4).map (fun i => (i.zero, i.size, i.bytes)) = some (some (.bool false), 1, 1) := by kernel_rfl
theorem ty_ne {w : World} {a b : Nat} {c c' : Array Value} {t t' : TypeId} {f f' : Nat × Nat} (h : w.heap[a]? = some (.cells c t f)) (h' : w.heap[b]? = some (.cells c' t' f')) (hn : t ≠ t') : a ≠ b := by
  rintro rfl
  rw [h] at h'
  injection h' with h'
  injection h' with _ h'
  exact hn h'
theorem cell_head {w : World} {a : Nat} {v : Value} {t : TypeId} (h : w.heap[a]? = some (.cells #[v] t (0, 0))) : w.cell? ⟨a, 0, none⟩ = some v ∧ w.frozen? ⟨a, 0, none⟩ = false ∧ a < w.heap.size := by
  refine ⟨by simp [World.cell?, h], by simp [World.frozen?, h], ?_⟩
  rcases Nat.lt_or_ge a w.heap.size with h1 | h1
  · exact h1
  · rw [Array.getElem?_eq_none h1] at h; cases h
theorem set_head {w : World} {a : Nat} {v : Value} {t : TypeId} (h : w.heap[a]? = some (.cells #[v] t (0, 0))) (u : Value) : (w.setCell ⟨a, 0, none⟩ u).heap[a]? = some (.cells #[u] t (0, 0)) := by
  simp [World.setCell, Array.getElem?_modify, h]
structure US (w : World) (base p1 p2 : Nat) (v1 : Value) (bs : List Bool) (ts : List Int) : Prop where
  b1 : base ≤ p1
  b2 : base ≤ p2
  ne : p1 ≠ p2
  c1 : w.heap[p1]? = some (.cells #[v1] 118 (0, 0))
  r1 : Kd.bool.R 4 w base (fun _ => True) v1 bs
  c2 : ∃ v2, w.heap[p2]? = some (.cells #[v2] 26 (0, 0)) ∧ (Kd.int .i64).R 3 w base (fun _ => True) v2 ts
theorem US.later {w w' : World} {base p1 p2 : Nat} {v1 : Value} {bs : List Bool} {ts : List Int} (h : US w base p1 p2 v1 bs ts) (hb : Below w.heap.size w w') : US w' base p1 p2 v1 bs ts := by
  obtain ⟨h1, h2, h3, h4, h5, v2, h6, h7⟩ := h
  exact ⟨h1, h2, h3, by rw [hb.block p1 (cell_head h4).2.2]; exact h4, Kd.R_below h5 hb, v2, by rw [hb.block p2 (cell_head h6).2.2]; exact h6, Kd.R_below h7 hb⟩
set_option maxHeartbeats 2000000 in
set_option maxRecDepth 100000 in
theorem mark_calls (s : Int) (base p1 p2 : Nat) (v1 : Value) (bs : List Bool) (ts : List Int) (w : World) (h : US w base p1 p2 v1 bs ts) (h0 : 0 ≤ s) (h1 : s < bs.length) (hl : ts.length ≤ 100000) (hbw : base ≤ w.heap.size) :
    Calls Tryd.prog 92 #[.int .i64 s, .pointer (some ⟨p1, 0, none⟩), .pointer (some ⟨p2, 0, none⟩)] w fun e w' => e = .returned (.tuple #[]) ∧ US w' base p1 p2 v1 (markB bs s) (markT bs ts s) ∧ Below base w w' := by
  obtain ⟨k1, k2, k3, k4, k5, v2, k6, k7⟩ := h
  obtain ⟨g, cap, rfl, hg0, hg1, cells, hgc⟩ := Kd.R_form k5 (by omega)
  obtain ⟨cb, fb⟩ := Kd.R_celln false k5 s h0 (by simpa using h1)
  have x1 := (cell_head k4).1
  have x2 := (cell_head k6).1
  have HS0 := Aside0.mk h0
  have e1 : rdOf false bs s = bs.getD s.toNat false := rfl
  rw [e1] at cb
  have hs1 : s < (bs.length : Int) := h1
  by_cases hb : bs.getD s.toNat false = true
  · rw [hb] at cb
    have HF := Aside0.mk (show US w base p1 p2 (.slice (some ⟨g, 0, none⟩) bs.length cap) (markB bs s) (markT bs ts s) from by
      unfold markB markT; rw [if_pos hb, if_pos hb]; exact ⟨k1, k2, k3, k4, k5, v2, k6, k7⟩)
    clear hb k4 k5 k6 k7 hgc
    go_enter Tryd.func92, Tryd.ntmps92
    go_wp2
    go_end0
    exact ⟨rfl, HF.out, Below.refl _ _⟩
  · have hb' : bs.getD s.toNat false = false := by simpa using hb
    rw [hb'] at cb
    have hgp1 := ty_ne hgc k4 (by decide)
    have hgp2 := ty_ne hgc k6 (by decide)
    obtain ⟨A2, c2, rfl⟩ := Kd.R_slice k7
    have hput := Kd.R_putg k5 s true
    have hR2 := Kd.R_set k7 hgc (fun q hq => by
      have hq' : q = 3 := by simpa [Kd.int, Kd.scalar] using hq
      rw [hq']; decide) s.toNat (.bool true)
    have kk4 : (w.setCell ⟨g, s.toNat, none⟩ (.bool true)).heap[p1]? = some (.cells #[.slice (some ⟨g, 0, none⟩) bs.length cap] 118 (0, 0)) := by
      rw [Below.heap_setCell _ _ _ _ (fun e => hgp1 e.symm)]; exact k4
    have kk6 : (w.setCell ⟨g, s.toNat, none⟩ (.bool true)).heap[p2]? = some (.cells #[.slice A2 ts.length c2] 26 (0, 0)) := by
      rw [Below.heap_setCell _ _ _ _ (fun e => hgp2 e.symm)]; exact k6
    have hBw : Below base w (w.setCell ⟨g, s.toNat, none⟩ (.bool true)) := (Below.refl _ _).setCell (p := ⟨g, s.toNat, none⟩) hg0 _
    have HP := Aside0.mk hput
    have HR2 := Aside0.mk hR2
    have HK4 := Aside0.mk kk4
    have HK6 := Aside0.mk kk6
    have HBW := Aside0.mk hBw
    have HX := Aside0.mk (show markB bs s = bs.set s.toNat true ∧ markT bs ts s = ts ++ [s] from by unfold markB markT; rw [hb']; exact ⟨rfl, rfl⟩)
    have n2 : some p2 ≠ (Value.slice A2 ts.length c2).ownBlock := Kd.R_ne hR2 kk6 (by decide)
    have n1 : some p1 ≠ (Value.slice A2 ts.length c2).ownBlock := Kd.R_ne hR2 kk4 (by decide)
    have ng : some g ≠ (Value.slice A2 ts.length c2).ownBlock := by
      obtain ⟨cells2, hgc2⟩ := Kd.R_typed hput.1 g (by simp [Value.ownBlock])
      exact Kd.R_ne hR2 hgc2 (by decide)
    have hz : (w.setCell ⟨g, s.toNat, none⟩ (.bool true)).heap.size = w.heap.size := by simp [World.setCell]
    have HN := Aside0.mk (And.intro k3 (And.intro n1 (And.intro n2 ng)))
    have HG := Aside0.mk hgp2
    have HGS := Aside0.mk hg1
    have HSZ := Aside0.mk hz
    have HB2 := Aside0.mk (And.intro (cell_head k4).2.2 (cell_head k6).2.2)
    clear n1 n2 ng hz e1
    clear hb hb' k4 k5 k6 k7 hgc hput hR2 kk4 kk6 hBw k3
    go_enter Tryd.func92, Tryd.ntmps92
    go_wp2_with (at_builtin; refine Kd.R_append (Kd.int .i64) (w0 := w) base rfl _ _ 26 3 (.int .i64 0) 8 rfl Tryd.underlying26 infoInt rfl (by decide) (by omega) (.slice A2 ts.length c2) ts s [.int .i64 s] (fun _ => True) (fun _ => False) rfl (by first | (go_simp; done) | (go_simp; rfl)) rfl (fun _ hk => hk.elim) (fun _ _ => trivial) ?aO ?aB ?aS ?aL ?_; (case aO => exact HR2.out); (case aB => exact HBW.out); (case aS => simp; omega); (case aL => omega); intro v1 w1 hR hB hg hat; obtain ⟨A3, c3, rfl⟩ := Kd.R_slice hR; have hw6 := (hg.block p2 (by rw [HSZ.out]; exact HB2.out.2) HN.out.2.2.1).trans HK6.out; have y6 := (cell_head hw6).1; have z6 := (cell_head hw6).2.1; have HW6 := Aside0.mk hw6; have HGR := Aside0.mk hg; have HR1 := Aside0.mk hR; have HB1 := Aside0.mk hB; clear hw6 hg hR hB)
    have hw4 := (HGR.out.block p1 (by rw [HSZ.out]; exact HB2.out.1) HN.out.2.1).trans HK4.out
    have hr1 := Kd.R_over' HP.out.1 (Kd.R_typed HR2.out) (fun q hq => by
      have hq' : q = 4 := by simpa [Kd.bool, Kd.scalar] using hq
      rw [hq']; decide) HGR.out
    have hr3 := Kd.R_set hr1 HW6.out (fun q hq => by
      have hq' : q = 4 := by simpa [Kd.bool, Kd.scalar] using hq
      rw [hq']; decide) 0 (.slice A3 (ts ++ [s]).length c3)
    have hr2 := Kd.R_set HR1.out HW6.out (fun q hq => by
      have hq' : q = 3 := by simpa [Kd.int, Kd.scalar] using hq
      rw [hq']; decide) 0 (.slice A3 (ts ++ [s]).length c3)
    have e5 : (ts ++ [s]).length = ts.length + 1 := by simp
    rw [e5] at hr2 hr3
    have ebs : (bs.set s.toNat true).length = bs.length := by simp
    have H2 := Aside0.mk hr2
    have H3 := Aside0.mk hr3
    clear hr1 hr2 hr3 hat e5
    go_end0
    refine ⟨rfl, ?_, HB1.out.setCell (p := ⟨p2, 0, none⟩) k2 _⟩
    rw [HX.out.1, HX.out.2]
    exact ⟨k1, k2, HN.out.1, by rw [Below.heap_setCell _ _ _ _ HN.out.1]; exact hw4, H3.out, _, set_head HW6.out _, H2.out⟩
end Go.Proofs.YthohahcpdgebbaaDoor.Wk
