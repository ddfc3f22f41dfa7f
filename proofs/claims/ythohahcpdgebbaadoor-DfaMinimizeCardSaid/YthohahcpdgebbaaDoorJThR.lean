/- Proved: what a part of the given program (its deterministic automata, and the functions that they call) computes, and laws on that, under the conditions that each theorem names. -/
import Derived.Test.YthohahcpdgebbaaDoorJThy
namespace Go.Proofs.YthohahcpdgebbaaDoor.Th
open Go.Proofs.YthohahcpdgebbaaDoor.Wk (cl)
structure Pts (rows : List (List Arc)) (p : List Int) : Prop where
  asc : asc p
  zero : p[0]? = some 0
  isC : ∀ x ∈ p, isC x
  lo : ∀ l ∈ rows, ∀ a ∈ l, a.lo ∈ p
  hi : ∀ l ∈ rows, ∀ a ∈ l, a.hi < 1114111 → nx a.hi ∈ p
theorem isE_of {x : Int} (h : isC x) : isE x := Or.inl h
def hiP (p : List Int) (i : Nat) : Int := match p[i + 1]? with
  | some y => pv y
  | none => 1114111
def inP (p : List Int) (i : Nat) (c : Int) : Prop := ∃ x, p[i]? = some x ∧ x ≤ c ∧ c ≤ hiP p i
theorem asc_lt {p : List Int} (h : asc p) {i j : Nat} {x y : Int} (hx : p[i]? = some x) (hy : p[j]? = some y) (hij : i < j) : x < y := by
  obtain ⟨hi, rfl⟩ := List.getElem?_eq_some_iff.1 hx
  obtain ⟨hj, rfl⟩ := List.getElem?_eq_some_iff.1 hy
  exact (List.pairwise_iff_getElem.1 h) i j hi hj hij
theorem asc_le {p : List Int} (h : asc p) {i j : Nat} {x y : Int} (hx : p[i]? = some x) (hy : p[j]? = some y) (hij : i ≤ j) : x ≤ y := by
  rcases Nat.lt_or_ge i j with h1 | h1
  · exact Int.le_of_lt (asc_lt h hx hy h1)
  · obtain rfl : i = j := by omega
    rw [hx] at hy
    injection hy with hy
    omega
theorem asc_idx {p : List Int} (h : asc p) {i j : Nat} {x y : Int} (hx : p[i]? = some x) (hy : p[j]? = some y) (hxy : x < y) : i < j := by
  rcases Nat.lt_or_ge i j with h1 | h1
  · exact h1
  · have := asc_le h hy hx h1
    omega
section
variable {rows : List (List Arc)} {p : List Int}
theorem Pts.C (h : Pts rows p) {i : Nat} {x : Int} (hx : p[i]? = some x) : Th.isC x := h.isC x (List.mem_of_getElem? hx)
theorem Pts.hi_ge (h : Pts rows p) {i : Nat} {x : Int} (hx : p[i]? = some x) : x ≤ hiP p i ∧ Th.isC (hiP p i) := by
  unfold hiP
  cases hy : p[i + 1]? with
  | none =>
    have := h.C hx
    show x ≤ 1114111 ∧ Th.isC 1114111
    unfold Th.isC at this ⊢
    omega
  | some y =>
    have h1 := h.C hx
    have h2 := h.C hy
    have h3 := asc_lt h.asc hx hy (by omega)
    obtain ⟨a, b, _⟩ := Th.pv_C (e := x) (e' := y) h1 (isE_of h2) h3
    exact ⟨b, a⟩
theorem Pts.hi_lt (h : Pts rows p) {i j : Nat} {y : Int} (hy : p[j]? = some y) (hij : i < j) : hiP p i < y := by
  have hi1 : i + 1 < p.length := by have := (List.getElem?_eq_some_iff.1 hy).1; omega
  unfold hiP
  rw [List.getElem?_eq_getElem hi1]
  have h2 := asc_le h.asc (List.getElem?_eq_getElem hi1) hy hij
  have : pv (p[i + 1]'hi1) < p[i + 1]'hi1 := by unfold pv; split <;> omega
  show pv (p[i + 1]'hi1) < y
  omega
theorem Pts.nx_hi (h : Pts rows p) {i : Nat} {y : Int} (hy : p[i + 1]? = some y) : nx (hiP p i) = y := by
  unfold hiP
  rw [hy]
  have := h.C hy
  show nx (pv y) = y
  unfold Th.isC at this
  unfold nx pv
  split <;> split <;> omega
theorem Pts.cover (h : Pts rows p) {c : Int} (hc : Th.isC c) : ∃ i, inP p i c := by
  have key : ∀ n : Nat, (∃ i, inP p i c) ∨ (n < p.length → ∃ x, p[n]? = some x ∧ x ≤ c) := by
    intro n
    induction n with
    | zero => exact .inr (fun _ => ⟨0, h.zero, by unfold Th.isC at hc; omega⟩)
    | succ n ih =>
      rcases ih with ih | ih
      · exact .inl ih
      · rcases Nat.lt_or_ge (n + 1) p.length with hn | hn
        · obtain ⟨x, hx, hxc⟩ := ih (by omega)
          rcases Int.lt_or_le c (p[n + 1]'hn) with hlt | hle
          · refine .inl ⟨n, x, hx, hxc, ?_⟩
            unfold hiP
            rw [List.getElem?_eq_getElem hn]
            exact (pv_lt hc (isE_of (h.C (List.getElem?_eq_getElem hn)))).2 hlt
          · exact .inr (fun _ => ⟨_, List.getElem?_eq_getElem hn, hle⟩)
        · exact .inr (fun hh => absurd hh (by omega))
  have hpos : 0 < p.length := (List.getElem?_eq_some_iff.1 h.zero).1
  rcases key (p.length - 1) with hh | hh
  · exact hh
  · obtain ⟨x, hx, hxc⟩ := hh (by omega)
    refine ⟨p.length - 1, x, hx, hxc, ?_⟩
    unfold hiP
    rw [List.getElem?_eq_none (by omega)]
    unfold Th.isC at hc
    show c ≤ 1114111
    omega
theorem Pts.one (h : Pts rows p) {i j : Nat} {c : Int} (hi : inP p i c) (hj : inP p j c) : i = j := by
  obtain ⟨x, hx, h1, h2⟩ := hi
  obtain ⟨y, hy, h3, h4⟩ := hj
  rcases Nat.lt_trichotomy i j with hlt | he | hlt
  · have := h.hi_lt hy hlt
    omega
  · exact he
  · have := h.hi_lt hx hlt
    omega
theorem okA_mem {n : Int} : ∀ {l : List Arc} {b : Int}, okA n b l → ∀ a ∈ l, okM n a ∧ b < a.lo
  | a :: l, b, ⟨h1, h2, h3, h4, h5, h6, h7⟩, x, hx => by
    rcases List.mem_cons.1 hx with rfl | hx
    · exact ⟨⟨h2, h3, h4, h5, h6⟩, h1⟩
    · obtain ⟨q, q2⟩ := okA_mem h7 x hx
      exact ⟨q, by omega⟩
theorem Pts.arc_const (h : Pts rows p) {l : List Arc} (hl : l ∈ rows) {a : Arc} (ha : a ∈ l) (_hlo : Th.isC a.lo) (hhi : Th.isC a.hi) {i : Nat} {x c : Int} (hx : p[i]? = some x) (hc : Th.isC c) (h1 : x ≤ c) (h2 : c ≤ hiP p i) :
    (a.lo ≤ c ∧ c ≤ a.hi) ↔ (a.lo ≤ x ∧ x ≤ a.hi) := by
  constructor
  · rintro ⟨q1, q2⟩
    refine ⟨?_, by omega⟩
    obtain ⟨j, hj⟩ := List.getElem?_of_mem (h.lo l hl a ha)
    rcases Nat.lt_or_ge i j with hlt | hge
    · have := h.hi_lt hj hlt
      omega
    · exact asc_le h.asc hj hx hge
  · rintro ⟨q1, q2⟩
    refine ⟨by omega, ?_⟩
    rcases Int.lt_or_le a.hi 1114111 with hlt | hge
    · obtain ⟨j, hj⟩ := List.getElem?_of_mem (h.hi l hl a ha hlt)
      have hgt := nx_gt a.hi
      have hij : i < j := asc_idx h.asc hx hj (by omega)
      have hi1 : i + 1 < p.length := by have := (List.getElem?_eq_some_iff.1 hj).1; omega
      unfold hiP at h2
      rw [List.getElem?_eq_getElem hi1] at h2
      have hle := asc_le h.asc (List.getElem?_eq_getElem hi1) hj hij
      have := pv_hi (isE_of (h.C (List.getElem?_eq_getElem hi1))) hhi hle
      have h2 : c ≤ pv (p[i + 1]'hi1) := h2
      omega
    · unfold Th.isC at hc
      omega
theorem stp_congr {r x : Int} : ∀ {l : List Arc}, (∀ a ∈ l, (a.lo ≤ r ∧ r ≤ a.hi) ↔ (a.lo ≤ x ∧ x ≤ a.hi)) → stp l r = stp l x
  | [], _ => rfl
  | a :: l, h => by
    unfold stp
    have h1 := h a List.mem_cons_self
    rw [stp_congr (l := l) (fun b hb => h b (List.mem_cons_of_mem _ hb))]
    by_cases hc : a.lo ≤ x ∧ x ≤ a.hi
    · rw [if_pos hc, if_pos (h1.2 hc)]
    · rw [if_neg hc, if_neg (fun hh => hc (h1.1 hh))]
theorem Pts.const (h : Pts rows p) {l : List Arc} (hl : l ∈ rows) {n b : Int} (ho : okA n b l) {i : Nat} {x c : Int} (hx : p[i]? = some x) (hc : Th.isC c) (h1 : x ≤ c) (h2 : c ≤ hiP p i) : stp l c = stp l x :=
  stp_congr fun a ha => h.arc_const hl ha (okA_mem ho a ha).1.1 (okA_mem ho a ha).1.2.1 hx hc h1 h2
end
structure PtsI (p : List Int) (seen : List Arc) : Prop where
  asc : asc p
  zero : p[0]? = some 0
  isC : ∀ x ∈ p, isC x
  lo : ∀ a ∈ seen, a.lo ∈ p
  hi : ∀ a ∈ seen, a.hi < 1114111 → nx a.hi ∈ p
theorem ptsI_start : PtsI [0] [] := ⟨by simp [Th.asc], rfl, fun x hx => by rw [List.mem_singleton.1 hx]; decide, fun a ha => (by cases ha), fun a ha => (by cases ha)⟩
def InsOf (l : List Int) (r : Int) (l' : List Int) : Prop := asc l' ∧ ∀ x, x ∈ l' ↔ x = r ∨ x ∈ l
theorem PtsI.ins {p p' : List Int} {seen : List Arc} {r : Int} (h : PtsI p seen) (hr : Th.isC r) (hi : InsOf p r p') : PtsI p' seen := by
  have hsub : ∀ x ∈ p, x ∈ p' := fun x hx => (hi.2 x).2 (.inr hx)
  have hC : ∀ x ∈ p', Th.isC x := fun x hx => by
    rcases (hi.2 x).1 hx with rfl | hx
    · exact hr
    · exact h.isC x hx
  refine ⟨hi.1, ?_, hC, fun a ha => hsub _ (h.lo a ha), fun a ha hh => hsub _ (h.hi a ha hh)⟩
  obtain ⟨j, hj⟩ := List.getElem?_of_mem (hsub 0 (List.mem_of_getElem? h.zero))
  rcases Nat.eq_zero_or_pos j with rfl | hpos
  · exact hj
  · have h0 : 0 < p'.length := by have := (List.getElem?_eq_some_iff.1 hj).1; omega
    have h1 := asc_lt hi.1 (List.getElem?_eq_getElem h0) hj hpos
    have h2 := hC _ (List.getElem_mem h0)
    unfold Th.isC at h2
    omega
theorem PtsI.arc {p p' : List Int} {seen : List Arc} {a : Arc} (h : PtsI p seen) (hlo : Th.isC a.lo) (hhi : Th.isC a.hi) {q : List Int} (h1 : InsOf p a.lo q) (h2 : (a.hi < 1114111 ∧ InsOf q (nx a.hi) p') ∨ (¬ a.hi < 1114111 ∧ p' = q)) : PtsI p' (seen ++ [a]) := by
  have hq := h.ins hlo h1
  have hm : a.lo ∈ q := (h1.2 _).2 (.inl rfl)
  rcases h2 with ⟨h3, h4⟩ | ⟨h3, rfl⟩
  · have hnx : Th.isC (nx a.hi) := by unfold Th.isC at *; unfold nx; split <;> omega
    have hp := hq.ins hnx h4
    refine ⟨hp.asc, hp.zero, hp.isC, fun x hx => ?_, fun x hx hh => ?_⟩
    · rcases List.mem_append.1 hx with hx | hx
      · exact hp.lo x hx
      · rw [List.mem_singleton.1 hx]
        exact (h4.2 _).2 (.inr hm)
    · rcases List.mem_append.1 hx with hx | hx
      · exact hp.hi x hx hh
      · rw [List.mem_singleton.1 hx]
        exact (h4.2 _).2 (.inl rfl)
  · refine ⟨hq.asc, hq.zero, hq.isC, fun x hx => ?_, fun x hx hh => ?_⟩
    · rcases List.mem_append.1 hx with hx | hx
      · exact hq.lo x hx
      · rw [List.mem_singleton.1 hx]
        exact hm
    · rcases List.mem_append.1 hx with hx | hx
      · exact hq.hi x hx hh
      · rw [List.mem_singleton.1 hx] at hh
        exact absurd hh h3
theorem PtsI.pts {p : List Int} {rows : List (List Arc)} (h : PtsI p rows.flatten) : Pts rows p :=
  ⟨h.asc, h.zero, h.isC, fun l hl a ha => h.lo a (List.mem_flatten.2 ⟨l, hl, ha⟩), fun l hl a ha => h.hi a (List.mem_flatten.2 ⟨l, hl, ha⟩)⟩
theorem insOf_at {l : List Int} {r : Int} {i : Nat} (h : asc l) (hi : i ≤ l.length) (hlt : ∀ x ∈ l.take i, x < r) (hge : ∀ y, l[i]? = some y → r < y) : InsOf l r (l.take i ++ r :: l.drop i) := by
  have hd : ∀ y ∈ l.drop i, r < y := fun y hy => by
    obtain ⟨j, hj⟩ := List.getElem?_of_mem hy
    rw [List.getElem?_drop] at hj
    have hi2 : i < l.length := by have := (List.getElem?_eq_some_iff.1 hj).1; omega
    have h1 := hge _ (List.getElem?_eq_getElem hi2)
    have h2 := asc_le h (List.getElem?_eq_getElem hi2) hj (by omega)
    omega
  have hl : asc (l.take i ++ l.drop i) := by rw [List.take_append_drop]; exact h
  obtain ⟨a1, a2, a3⟩ := List.pairwise_append.1 hl
  constructor
  · refine List.pairwise_append.2 ⟨a1, List.pairwise_cons.2 ⟨hd, a2⟩, fun x hx y hy => ?_⟩
    rcases List.mem_cons.1 hy with rfl | hy
    · exact hlt x hx
    · exact a3 x hx y hy
  · intro x
    rw [List.mem_append, List.mem_cons]
    have e : x ∈ l ↔ x ∈ l.take i ∨ x ∈ l.drop i := by rw [← List.mem_append, List.take_append_drop]
    rw [e]
    constructor
    · rintro (h | h | h)
      · exact .inr (.inl h)
      · exact .inl h
      · exact .inr (.inr h)
    · rintro (h | h | h)
      · exact .inr (.inl h)
      · exact .inl h
      · exact .inr (.inr h)
theorem insOf_has {l : List Int} {r : Int} {i : Nat} (h : asc l) (hi : l[i]? = some r) : InsOf l r l :=
  ⟨h, fun x => ⟨.inr, fun hx => by
    rcases hx with rfl | hx
    · exact List.mem_of_getElem? hi
    · exact hx⟩⟩
def tgt (tos : List Int) (j : Nat) : Option Int := match tos[j]? with
  | some t => if t < 0 then none else some t
  | none => none
theorem okA_unsnoc {n : Int} {a : Arc} : ∀ {l : List Arc} {b : Int}, okA n b (l ++ [a]) → okA n b l ∧ (∀ x ∈ l, x.hi < a.lo) ∧ b < a.lo ∧ okM n a
  | [], b, ⟨h1, h2, h3, h4, h5, h6, _⟩ => ⟨trivial, fun x hx => (by cases hx), h1, h2, h3, h4, h5, h6⟩
  | x :: l, b, ⟨h1, h2, h3, h4, h5, h6, h7⟩ => by
    obtain ⟨q1, q2, q3, q4⟩ := okA_unsnoc h7
    refine ⟨⟨h1, h2, h3, h4, h5, h6, q1⟩, fun y hy => ?_, by omega, q4⟩
    rcases List.mem_cons.1 hy with rfl | hy
    · exact q3
    · exact q2 y hy
theorem stp_above {r : Int} : ∀ {l : List Arc}, (∀ x ∈ l, x.hi < r) → stp l r = none
  | [], _ => rfl
  | a :: l, h => by
    unfold stp
    have := h a List.mem_cons_self
    rw [if_neg (by omega)]
    exact stp_above (fun x hx => h x (List.mem_cons_of_mem _ hx))
theorem mg_snoc {a : Arc} : ∀ {l : List Arc}, mg l → (∀ x, l.getLast? = some x → ¬ (x.to = a.to ∧ nx x.hi = a.lo)) → mg (l ++ [a])
  | [], _, _ => trivial
  | [x], _, h => ⟨h x rfl, trivial⟩
  | x :: y :: l, ⟨h1, h2⟩, h => ⟨h1, mg_snoc (l := y :: l) h2 (fun z hz => h z (by simpa using hz))⟩
theorem mg_last {a a' : Arc} (hl : a'.lo = a.lo) (ht : a'.to = a.to) : ∀ {l : List Arc}, mg (l ++ [a]) → mg (l ++ [a'])
  | [], _ => trivial
  | [x], ⟨h, _⟩ => ⟨by rw [hl, ht]; exact h, trivial⟩
  | x :: y :: l, ⟨h1, h2⟩ => ⟨h1, mg_last hl ht (l := y :: l) h2⟩
def scanT : List Int → Nat → Option Nat
  | [], c => some c
  | t :: l, c => if t < (c : Int) then scanT l c else if t = (c : Int) then scanT l (c + 1) else none
theorem scanT_snoc : ∀ {l : List Int} {c e : Nat} (t : Int), scanT l c = some e → scanT (l ++ [t]) c = if t < (e : Int) then some e else if t = (e : Int) then some (e + 1) else none
  | [], c, e, t, h => by
    injection h with h
    subst h
    simp only [List.nil_append, scanT]
  | x :: l, c, e, t, h => by
    simp only [scanT] at h
    simp only [List.cons_append, scanT]
    split at h
    · rename_i h1
      rw [if_pos h1]
      exact scanT_snoc t h
    · split at h
      · rename_i h1 h2
        rw [if_neg h1, if_pos h2]
        exact scanT_snoc t h
      · cases h
theorem scanT_unsnoc {l : List Int} {c e : Nat} {t : Int} (h : scanT (l ++ [t]) c = some e) : ∃ e0, scanT l c = some e0 ∧ ((t < (e0 : Int) ∧ e = e0) ∨ (t = (e0 : Int) ∧ e = e0 + 1)) := by
  cases h0 : scanT l c with
  | none =>
    exfalso
    have key : ∀ (l : List Int) (c : Nat), scanT l c = none → scanT (l ++ [t]) c = none := by
      intro l
      induction l with
      | nil => intro c h; cases h
      | cons x l ih =>
        intro c h
        simp only [scanT] at h
        simp only [List.cons_append, scanT]
        split at h
        · rename_i h1
          rw [if_pos h1]
          exact ih _ h
        · split at h
          · rename_i h1 h2
            rw [if_neg h1, if_pos h2]
            exact ih _ h
          · rename_i h1 h2
            rw [if_neg h1, if_neg h2]
    rw [key l c h0] at h
    cases h
  | some e0 =>
    rw [scanT_snoc t h0] at h
    refine ⟨e0, rfl, ?_⟩
    split at h
    · rename_i h1
      injection h with h
      exact .inl ⟨h1, h.symm⟩
    · split at h
      · rename_i h1 h2
        injection h with h
        exact .inr ⟨h2, h.symm⟩
      · cases h
theorem scanT_lt : ∀ {l : List Int} {c e : Nat}, scanT l c = some e → c ≤ e ∧ ∀ t ∈ l, t < (e : Int)
  | [], c, e, h => by
    injection h with h
    subst h
    exact ⟨Nat.le_refl _, fun _ h => by cases h⟩
  | x :: l, c, e, h => by
    simp only [scanT] at h
    split at h
    · rename_i h1
      obtain ⟨q1, q2⟩ := scanT_lt h
      exact ⟨q1, fun t ht => by
        rcases List.mem_cons.1 ht with rfl | ht
        · omega
        · exact q2 t ht⟩
    · split at h
      · rename_i h1 h2
        obtain ⟨q1, q2⟩ := scanT_lt h
        exact ⟨by omega, fun t ht => by
          rcases List.mem_cons.1 ht with rfl | ht
          · omega
          · exact q2 t ht⟩
      · cases h
theorem scanL_to : ∀ {l l' : List Arc} {c : Nat}, l.map Arc.to = l'.map Arc.to → scanL l c = scanL l' c
  | [], [], _, _ => rfl
  | [], _ :: _, _, h => by simp at h
  | _ :: _, [], _, h => by simp at h
  | a :: l, b :: l', c, h => by
    simp only [List.map_cons, List.cons.injEq] at h
    simp only [scanL, h.1]
    rw [scanL_to h.2, scanL_to (c := c + 1) h.2]
structure RwI (m : Int) (p tos : List Int) (i : Nat) (out : List Arc) : Prop where
  ok : okA m (-1) out
  mgd : mg out
  hi : ∀ x ∈ out, ∀ y, p[i]? = some y → x.hi < y
  stp_ : ∀ c, isC c → ∀ j, j < i → inP p j c → stp out c = tgt tos j
  last : ∀ k t, i = k + 1 → tos[k]? = some t → 0 ≤ t → ∃ pre a, out = pre ++ [a] ∧ a.to = t ∧ a.hi = hiP p k
  gap : ∀ k t, i = k + 1 → tos[k]? = some t → t < 0 → ∀ x ∈ out, ∀ y, p[i]? = some y → nx x.hi < y
  scan : ∀ c e, scanT (tos.take i) c = some e → scanL out c = some e
  len : out.length ≤ i
theorem rwI_start (m : Int) (p tos : List Int) : RwI m p tos 0 [] :=
  ⟨trivial, trivial, fun x hx => (by cases hx), fun _ _ _ h => (by omega), fun _ _ h => (by omega), fun _ _ h => (by omega), fun c e h => (by simpa [scanT, scanL] using h), Nat.le_refl _⟩
section
variable {rows : List (List Arc)} {m : Int} {p tos : List Int} {i : Nat} {out : List Arc} {t x : Int}
theorem take_succ_some {α : Type} {l : List α} {i : Nat} {a : α} (h : l[i]? = some a) : l.take (i + 1) = l.take i ++ [a] := by
  rw [List.take_add_one, h]; rfl
theorem RwI.skip (h : RwI m p tos i out) (hP : Pts rows p) (ht : tos[i]? = some t) (hx : p[i]? = some x) (h0 : t < 0) : RwI m p tos (i + 1) out := by
  have hlt : ∀ a ∈ out, a.hi < x := fun a ha => h.hi a ha x hx
  refine ⟨h.ok, h.mgd, fun a ha y hy => ?_, fun c hc j hj hin => ?_, fun k u hk hu h1 => ?_, fun k u hk hu h1 a ha y hy => ?_, fun c e hs => ?_, by have := h.len; omega⟩
  · have := asc_lt hP.asc hx hy (by omega)
    have := hlt a ha
    omega
  · rcases Nat.lt_or_ge j i with hji | hji
    · exact h.stp_ c hc j hji hin
    · obtain rfl : j = i := by omega
      obtain ⟨x', hx', q1, _⟩ := hin
      rw [hx] at hx'
      injection hx' with hx'
      subst hx'
      rw [stp_above (fun a ha => by have := hlt a ha; omega)]
      unfold tgt
      rw [ht]
      simp [h0]
  · obtain rfl : k = i := by omega
    rw [ht] at hu
    injection hu with hu
    omega
  · have h2 := hlt a ha
    have h3 := asc_lt hP.asc hx hy (by omega)
    have h4 := nx_le (okA_mem h.ok a ha).1.2.1 (hP.C hx) h2
    omega
  · rw [take_succ_some ht] at hs
    obtain ⟨e0, h1, h2 | h2⟩ := scanT_unsnoc hs
    · rw [h2.2]
      exact h.scan c e0 h1
    · omega
theorem RwI.join {pre : List Arc} {a : Arc} (h : RwI m p tos i (pre ++ [a])) (hP : Pts rows p) (ht : tos[i]? = some t) (hx : p[i]? = some x) (h0 : 0 ≤ t) {k : Nat} (hk : i = k + 1) (htk : tos[k]? = some t) : RwI m p tos (i + 1) (pre ++ [⟨a.lo, hiP p i, a.to⟩]) := by
  obtain ⟨pre', a', he, hat, hah⟩ := h.last k t hk htk h0
  obtain ⟨hpe, hae⟩ := List.append_inj' he rfl
  injection hae with hae
  subst hpe hae
  obtain ⟨q1, q2, q3, q4⟩ := okA_unsnoc h.ok
  obtain ⟨o1, o2, o3, o4, o5⟩ := q4
  obtain ⟨g1, g2⟩ := hP.hi_ge hx
  have hlo : a.lo ≤ x := by
    have := h.hi a (List.mem_append_right _ List.mem_cons_self) x hx
    omega
  have hnx : nx a.hi = x := by rw [hah]; exact hP.nx_hi (by rw [← hk]; exact hx)
  refine ⟨okA_snoc q1 q2 q3 o1 g2 (by show a.lo ≤ hiP p i; omega) o4 o5, mg_last (a := a) (a' := ⟨a.lo, hiP p i, a.to⟩) rfl rfl h.mgd, fun b hb y hy => ?_, fun c hc j hj hin => ?_, fun k' u hk' hu h1 => ?_, fun k' u hk' hu h1 => ?_, fun c e hs => ?_, by have := h.len; simp at this ⊢; omega⟩
  · rcases List.mem_append.1 hb with hb | hb
    · have h1 := q2 b hb
      have h2 := asc_lt hP.asc hx hy (by omega)
      omega
    · rw [List.mem_singleton.1 hb]
      exact hP.hi_lt hy (by omega)
  · rw [stp_snoc]
    rcases Nat.lt_or_ge j i with hji | hji
    · have h1 := h.stp_ c hc j hji hin
      rw [stp_snoc] at h1
      rw [← h1]
      obtain ⟨x', hx', r1, r2⟩ := hin
      have h2 := hP.hi_lt hx hji
      have e1 : (a.lo ≤ c ∧ c ≤ hiP p i) ↔ (a.lo ≤ c ∧ c ≤ a.hi) := by
        have : c ≤ a.hi := by
          rcases Int.lt_or_le a.hi c with h3 | h3
          · have := nx_le o2 hc h3
            omega
          · exact h3
        constructor <;> intro hh <;> exact ⟨hh.1, by omega⟩
      by_cases hcc : a.lo ≤ c ∧ c ≤ a.hi
      · rw [if_pos hcc, if_pos (e1.2 hcc)]
      · rw [if_neg hcc, if_neg (fun hh => hcc (e1.1 hh))]
    · obtain rfl : j = i := by omega
      obtain ⟨x', hx', r1, r2⟩ := hin
      rw [hx] at hx'
      injection hx' with hx'
      subst hx'
      rw [stp_above (fun b hb => by have := q2 b hb; omega), Option.none_or, if_pos ⟨by show a.lo ≤ c; omega, r2⟩]
      unfold tgt
      rw [ht]
      simp [show ¬ t < 0 by omega, hat]
  · obtain rfl : k' = i := by omega
    rw [ht] at hu
    injection hu with hu
    subst hu
    exact ⟨pre, _, rfl, hat, rfl⟩
  · obtain rfl : k' = i := by omega
    rw [ht] at hu
    injection hu with hu
    omega
  · rw [take_succ_some ht] at hs
    obtain ⟨e0, h1, h2⟩ := scanT_unsnoc hs
    have h3 := h.scan c e0 h1
    have h4 : t < (e0 : Int) := (scanT_lt h1).2 t (List.mem_of_getElem? (i := k) (by rw [List.getElem?_take, if_pos (by omega)]; exact htk))
    have : e = e0 := by omega
    rw [this, ← h3]
    exact scanL_to (by simp)
theorem RwI.new (h : RwI m p tos i out) (hP : Pts rows p) (ht : tos[i]? = some t) (hx : p[i]? = some x) (h0 : 0 ≤ t) (hm : t < m) (hne : ∀ k, i = k + 1 → tos[k]? ≠ some t) (hlen : i ≤ tos.length) : RwI m p tos (i + 1) (out ++ [⟨x, hiP p i, t⟩]) := by
  obtain ⟨g1, g2⟩ := hP.hi_ge hx
  have hxC := hP.C hx
  have hlt : ∀ a ∈ out, a.hi < x := fun a ha => h.hi a ha x hx
  refine ⟨okA_snoc h.ok hlt (by show -1 < x; unfold isC at hxC; omega) hxC g2 g1 h0 hm, mg_snoc h.mgd (fun a ha hh => ?_), fun b hb y hy => ?_, fun c hc j hj hin => ?_, fun k' u hk' hu h1 => ?_, fun k' u hk' hu h1 => ?_, fun c e hs => ?_, by have := h.len; simp; omega⟩
  · have ham : a ∈ out := List.mem_of_getLast? ha
    rcases Nat.eq_zero_or_pos i with rfl | hpos
    · have h0l := h.len
      have h0e : out = [] := List.eq_nil_of_length_eq_zero (by omega)
      rw [h0e] at ham
      cases ham
    · obtain ⟨k, rfl⟩ : ∃ k, i = k + 1 := ⟨i - 1, by omega⟩
      have hku : tos[k]? = some (tos[k]'(by omega)) := List.getElem?_eq_getElem (by omega)
      generalize tos[k]'(by omega) = u at hku
      rcases Int.lt_or_le u 0 with hu | hu
      · have := h.gap k u rfl hku hu a ham x hx
        have h2 : nx a.hi = x := hh.2
        omega
      · obtain ⟨pre, a', he, q1, q2⟩ := h.last k u rfl hku hu
        rw [he, List.getLast?_append, List.getLast?_singleton, Option.some_or] at ha
        injection ha with ha
        have h2 : a.to = t := hh.1
        rw [← ha, q1] at h2
        exact hne k rfl (by rw [hku, h2])
  · rcases List.mem_append.1 hb with hb | hb
    · have h1 := hlt b hb
      have h2 := asc_lt hP.asc hx hy (by omega)
      omega
    · rw [List.mem_singleton.1 hb]
      exact hP.hi_lt hy (by omega)
  · rw [stp_snoc]
    rcases Nat.lt_or_ge j i with hji | hji
    · have h1 := h.stp_ c hc j hji hin
      obtain ⟨x', hx', r1, r2⟩ := hin
      have h2 := hP.hi_lt hx hji
      rw [if_neg (by show ¬ (x ≤ c ∧ _); omega), Option.or_none]
      exact h1
    · obtain rfl : j = i := by omega
      obtain ⟨x', hx', r1, r2⟩ := hin
      rw [hx] at hx'
      injection hx' with hx'
      subst hx'
      rw [stp_above (fun b hb => by have := hlt b hb; omega), Option.none_or, if_pos ⟨r1, r2⟩]
      unfold tgt
      rw [ht]
      simp [show ¬ t < 0 by omega]
  · obtain rfl : k' = i := by omega
    rw [ht] at hu
    injection hu with hu
    subst hu
    exact ⟨out, _, rfl, rfl, rfl⟩
  · obtain rfl : k' = i := by omega
    rw [ht] at hu
    injection hu with hu
    omega
  · rw [take_succ_some ht] at hs
    obtain ⟨e0, h1, h2⟩ := scanT_unsnoc hs
    rw [scanL_snoc _ (h.scan c e0 h1)]
    show (if t < (e0 : Int) then some e0 else if t = (e0 : Int) then some (e0 + 1) else none) = some e
    rcases h2 with ⟨h2, rfl⟩ | ⟨h2, rfl⟩
    · rw [if_pos h2]
    · rw [if_neg (by omega), if_pos h2]
theorem RwI.end_ (h : RwI m p tos p.length out) (hl : tos.length = p.length) : okA m (-1) out ∧ mg out ∧ (∀ c, isC c → ∀ j, inP p j c → stp out c = tgt tos j) ∧ ∀ c e, scanT tos c = some e → scanL out c = some e :=
  ⟨h.ok, h.mgd, fun c hc j hj => h.stp_ c hc j (by obtain ⟨x, hx, _⟩ := hj; exact (List.getElem?_eq_some_iff.1 hx).1) hj, fun c e hs => h.scan c e (by rw [← hl, List.take_length]; exact hs)⟩
end
end Go.Proofs.YthohahcpdgebbaaDoor.Th
namespace Go.Proofs.YthohahcpdgebbaaDoor.Th
open Go.Proofs.YthohahcpdgebbaaDoor.Wk (cl)
theorem arc_out (d : Dfa) : d.arc (d.n : Int) = [] := by
  unfold Dfa.arc
  rw [Int.toNat_natCast, List.getD_eq_getElem?_getD, List.getElem?_eq_none (by unfold Dfa.n; exact Nat.le_refl _)]
  rfl
theorem lab_out {d : Dfa} (hd : Ok d) : d.lab (d.n : Int) = -1 := by
  unfold Dfa.lab
  rw [Int.toNat_natCast, List.getD_eq_getElem?_getD, List.getElem?_eq_none (by rw [hd.len]; exact Nat.le_refl _)]
  rfl
theorem run_out {d : Dfa} (hd : Ok d) : ∀ w : List Int, run d (d.n : Int) w = -1
  | [] => lab_out hd
  | r :: w => by
    unfold run
    rw [arc_out]
    rfl
theorem live_iff {d : Dfa} (hd : Ok d) (s : Int) : Live d s ↔ ¬ Eqv d s d d.n := by
  constructor
  · rintro ⟨w, hw, hn⟩ he
    exact hn (by rw [he w hw, run_out hd])
  · intro h
    rcases Classical.em (Live d s) with hl | hl
    · exact hl
    · exact absurd (fun w hw => by rw [dead hl hw, run_out hd]) h
def nxt (d : Dfa) (i : Nat) (c : Int) : Nat := match stp (d.arc i) c with
  | some t => t.toNat
  | none => d.n
theorem nxt_le {d : Dfa} (hd : Ok d) (i : Nat) (c : Int) : nxt d i c ≤ d.n := by
  unfold nxt
  cases h : stp (d.arc i) c with
  | none => exact Nat.le_refl _
  | some t =>
    obtain ⟨m, rfl, hm⟩ := stp_in hd h
    show ((m : Int)).toNat ≤ d.n
    omega
theorem nxt_run {d : Dfa} (hd : Ok d) (i : Nat) (c : Int) (w : List Int) : run d i (c :: w) = run d (nxt d i c) w := by
  unfold nxt
  cases h : stp (d.arc i) c with
  | none =>
    rw [run_cons_none h]
    exact (run_out hd w).symm
  | some t =>
    obtain ⟨m, rfl, hm⟩ := stp_in hd h
    rw [run_cons_some h]
    show run d (m : Int) w = run d (((m : Int).toNat : Nat) : Int) w
    rw [Int.toNat_natCast]
theorem nxt_eqv {d : Dfa} (hd : Ok d) {i j : Nat} {c : Int} (hc : isC c) (h : Eqv d i d j) : Eqv d (nxt d i c) d (nxt d j c) := fun w hw => by
  rw [← nxt_run hd, ← nxt_run hd]
  exact h (c :: w) (allC_cons.2 ⟨hc, hw⟩)
theorem Pts.nxt_const {d : Dfa} {p : List Int} (hd : Ok d) (hP : Pts d.arcs p) {k : Nat} {x c : Int} (hx : p[k]? = some x) (hc : Th.isC c) (h1 : x ≤ c) (h2 : c ≤ hiP p k) (i : Nat) : nxt d i c = nxt d i x := by
  unfold nxt
  rcases Nat.lt_or_ge i d.n with hi | hi
  · have hm : d.arc i ∈ d.arcs := by
      unfold Dfa.arc
      rw [Int.toNat_natCast, List.getD_eq_getElem?_getD, List.getElem?_eq_getElem hi]
      exact List.getElem_mem hi
    rw [hP.const hm (hd.arc_ok i) hx hc h1 h2]
  · have : d.arc i = [] := by
      unfold Dfa.arc
      rw [Int.toNat_natCast, List.getD_eq_getElem?_getD, List.getElem?_eq_none hi]
      rfl
    rw [this]
    rfl
def dfAt (df : List (List Bool)) (i j : Nat) : Bool := (df.getD i []).getD j false
def dfSet (df : List (List Bool)) (i j : Nat) : List (List Bool) := df.set i ((df.getD i []).set j true)
def falses (df : List (List Bool)) : Nat := (df.map (fun r => r.count false)).sum
structure DInv (d : Dfa) (df : List (List Bool)) : Prop where
  len : df.length = d.n + 1
  lens : ∀ i, i ≤ d.n → (df.getD i []).length = d.n + 1
  no : ∀ i j, i ≤ d.n → j ≤ d.n → dfAt df i j = true → ¬ Eqv d i d j
  lab : ∀ i j, i ≤ d.n → j ≤ d.n → d.lab i ≠ d.lab j → dfAt df i j = true
theorem getD_set' {α : Type} (l : List α) (i j : Nat) (x z : α) : (l.set i x).getD j z = if i = j ∧ i < l.length then x else l.getD j z := getD_set l i j x z
theorem dfAt_set {df : List (List Bool)} {n i j : Nat} (h1 : df.length = n + 1) (h2 : ∀ i, i ≤ n → (df.getD i []).length = n + 1) (hi : i ≤ n) (hj : j ≤ n) (a b : Nat) : dfAt (dfSet df i j) a b = if a = i ∧ b = j then true else dfAt df a b := by
  unfold dfAt dfSet
  rw [getD_set']
  by_cases ha : i = a
  · subst ha
    rw [if_pos ⟨rfl, by omega⟩, getD_set']
    by_cases hb : j = b
    · subst hb
      rw [if_pos ⟨rfl, by rw [h2 i hi]; omega⟩, if_pos ⟨rfl, rfl⟩]
    · rw [if_neg (fun h => hb h.1), if_neg (fun h => hb h.2.symm)]
  · rw [if_neg (fun h => ha h.1), if_neg (fun h => ha h.1.symm)]
theorem count_set_true' : ∀ (bs : List Bool) (i : Nat), i < bs.length → bs.getD i false = false → (bs.set i true).count false < bs.count false := fun bs i h1 h2 => by
  have := count_set_true bs i h1 h2
  omega
theorem sum_set_lt (f : List Bool → Nat) : ∀ (df : List (List Bool)) (i : Nat) (r : List Bool), i < df.length → f r < f (df.getD i []) → ((df.set i r).map f).sum < (df.map f).sum
  | [], i, r, h, _ => by simp at h
  | x :: df, 0, r, _, h => by simpa using h
  | x :: df, i + 1, r, h, h2 => by
    simp only [List.set_cons_succ, List.map_cons, List.sum_cons]
    have := sum_set_lt f df i r (by simpa using h) (by simpa using h2)
    omega
theorem falses_set {df : List (List Bool)} {n i j : Nat} (h1 : df.length = n + 1) (h2 : ∀ i, i ≤ n → (df.getD i []).length = n + 1) (hi : i ≤ n) (hj : j ≤ n) (hf : dfAt df i j = false) : falses (dfSet df i j) < falses df := by
  unfold falses dfSet
  exact sum_set_lt _ df i _ (by omega) (count_set_true' _ j (by rw [h2 i hi]; omega) hf)
theorem DInv.set {d : Dfa} {df : List (List Bool)} (h : DInv d df) (hd : Ok d) {i j : Nat} (hi : i ≤ d.n) (hj : j ≤ d.n) {c : Int} (hc : isC c) (hn : dfAt df (nxt d i c) (nxt d j c) = true) : DInv d (dfSet df i j) := by
  have key := dfAt_set h.len h.lens hi hj
  refine ⟨by unfold dfSet; rw [List.length_set]; exact h.len, fun a ha => ?_, fun a b ha hb hab => ?_, fun a b ha hb hl => ?_⟩
  · unfold dfSet
    rw [getD_set']
    split
    · rw [List.length_set]
      exact h.lens i hi
    · exact h.lens a ha
  · rw [key] at hab
    split at hab
    · rename_i he
      obtain ⟨rfl, rfl⟩ := he
      exact fun he => h.no _ _ (nxt_le hd _ _) (nxt_le hd _ _) hn (nxt_eqv hd hc he)
    · exact h.no a b ha hb hab
  · rw [key]
    split
    · rfl
    · exact h.lab a b ha hb hl
def Cl (d : Dfa) (p : List Int) (df : List (List Bool)) (i j : Nat) : Prop := dfAt df i j = false → ∀ x ∈ p, dfAt df (nxt d i x) (nxt d j x) = false
structure RndI (d : Dfa) (p : List Int) (F : Nat) (df : List (List Bool)) (more : Bool) (i j : Nat) : Prop where
  inv : DInv d df
  some_ : more = true → falses df < F
  none_ : more = false → falses df ≤ F ∧ ∀ a b, a ≤ d.n → b ≤ d.n → (a < i ∨ (a = i ∧ b < j)) → Cl d p df a b
theorem rndI_next {d : Dfa} {p : List Int} {F : Nat} {df : List (List Bool)} {more : Bool} {i j : Nat} (h : RndI d p F df more i j) (hc : more = false → Cl d p df i j) : RndI d p F df more i (j + 1) :=
  ⟨h.inv, h.some_, fun hm => ⟨(h.none_ hm).1, fun a b ha hb hab => by
    by_cases e : a = i ∧ b = j
    · obtain ⟨rfl, rfl⟩ := e
      exact hc hm
    · exact (h.none_ hm).2 a b ha hb (by omega)⟩⟩
theorem rndI_row {d : Dfa} {p : List Int} {F : Nat} {df : List (List Bool)} {more : Bool} {i : Nat} (h : RndI d p F df more i (d.n + 1)) : RndI d p F df more (i + 1) 0 :=
  ⟨h.inv, h.some_, fun hm => ⟨(h.none_ hm).1, fun a b ha hb hab => (h.none_ hm).2 a b ha hb (by omega)⟩⟩
theorem rndI_set {d : Dfa} {p : List Int} {F : Nat} {df : List (List Bool)} {more : Bool} {i j : Nat} (h : RndI d p F df more i j) (hd : Ok d) (hi : i ≤ d.n) (hj : j ≤ d.n) {c : Int} (hc : isC c) (hf : dfAt df i j = false) (hn : dfAt df (nxt d i c) (nxt d j c) = true) : RndI d p F (dfSet df i j) true i j := by
  have h1 := falses_set h.inv.len h.inv.lens hi hj hf
  refine ⟨h.inv.set hd hi hj hc hn, fun _ => ?_, fun hm => by cases hm⟩
  cases hm : more with
  | true => have := h.some_ hm; omega
  | false => have := (h.none_ hm).1; omega
theorem rndI_start {d : Dfa} {p : List Int} {df : List (List Bool)} (h : DInv d df) : RndI d p (falses df) df false 0 0 :=
  ⟨h, fun hm => (by cases hm), fun _ => ⟨Nat.le_refl _, fun a b _ _ hab => by omega⟩⟩
theorem rndI_end {d : Dfa} {p : List Int} {F : Nat} {df : List (List Bool)} (h : RndI d p F df false (d.n + 1) 0) (hd : Ok d) (hP : Pts d.arcs p) : ∀ i j, i ≤ d.n → j ≤ d.n → (dfAt df i j = false ↔ Eqv d i d j) := by
  have hcl : ∀ i j, i ≤ d.n → j ≤ d.n → Cl d p df i j := fun i j hi hj => (h.none_ rfl).2 i j hi hj (by omega)
  have key : ∀ (w : List Int) (i j : Nat), i ≤ d.n → j ≤ d.n → dfAt df i j = false → allC w → run d i w = run d j w := by
    intro w
    induction w with
    | nil =>
      intro i j hi hj hf _
      rcases Classical.em (d.lab i = d.lab j) with he | he
      · exact he
      · have := h.inv.lab i j hi hj he
        rw [hf] at this
        cases this
    | cons c w ih =>
      intro i j hi hj hf hw
      obtain ⟨hc, hw⟩ := allC_cons.1 hw
      obtain ⟨k, x, hx, h1, h2⟩ := hP.cover hc
      rw [nxt_run hd, nxt_run hd, hP.nxt_const hd hx hc h1 h2, hP.nxt_const hd hx hc h1 h2]
      exact ih _ _ (nxt_le hd _ _) (nxt_le hd _ _) (hcl i j hi hj hf x (List.mem_of_getElem? hx)) hw
  intro i j hi hj
  constructor
  · exact fun hf w hw => key w i j hi hj hf hw
  · intro he
    cases hb : dfAt df i j with
    | false => rfl
    | true => exact absurd he (h.inv.no i j hi hj hb)
structure COut (d : Dfa) (out : List Int) : Prop where
  len : out.length = d.n + 1
  at_ : ∀ i, i ≤ d.n → ∃ r : Nat, r ≤ i ∧ out[i]? = some (r : Int) ∧ Eqv d r d i ∧ ∀ j : Nat, j < r → ¬ Eqv d j d i
theorem COut.same {d : Dfa} {out : List Int} (h : COut d out) {i j : Nat} (hi : i ≤ d.n) (hj : j ≤ d.n) : out[i]? = out[j]? ↔ Eqv d i d j := by
  obtain ⟨r, r1, r2, r3, r4⟩ := h.at_ i hi
  obtain ⟨q, q1, q2, q3, q4⟩ := h.at_ j hj
  rw [r2, q2]
  constructor
  · intro e
    have : (r : Int) = (q : Int) := by injection e
    obtain rfl : r = q := by omega
    exact r3.symm.trans q3
  · intro e
    rcases Nat.lt_trichotomy r q with hlt | rfl | hlt
    · exact absurd (r3.trans e) (q4 r hlt)
    · rfl
    · exact absurd (q3.trans e.symm) (r4 q hlt)
def Rof (d : Dfa) (out : List Int) : List Int := (List.range d.n).map fun s => if out.getD s 0 = out.getD d.n 0 then -1 else out.getD s 0
theorem rof_at {d : Dfa} (out : List Int) {s : Nat} (hs : s < d.n) : cl (Rof d out) s = if out.getD s 0 = out.getD d.n 0 then -1 else out.getD s 0 := by
  unfold cl Rof
  rw [Int.toNat_natCast, List.getD_eq_getElem?_getD, List.getElem?_map, List.getElem?_range hs]
  rfl
theorem getD_of {α : Type} {l : List α} {i : Nat} {a z : α} (h : l[i]? = some a) : l.getD i z = a := by
  rw [List.getD_eq_getElem?_getD, h]; rfl
theorem rof_dead {d : Dfa} {out : List Int} (hd : Ok d) (h : COut d out) {s : Nat} (hs : s ≤ d.n) : out.getD s 0 = out.getD d.n 0 ↔ ¬ Live d s := by
  obtain ⟨r, _, r2, _⟩ := h.at_ s hs
  obtain ⟨q, _, q2, _⟩ := h.at_ d.n (Nat.le_refl _)
  have h1 := h.same hs (Nat.le_refl d.n)
  rw [r2, q2] at h1
  rw [getD_of r2, getD_of q2, live_iff hd, Classical.not_not, ← h1]
  constructor
  · intro e; rw [e]
  · intro e; injection e
theorem rof_live {d : Dfa} {out : List Int} (hd : Ok d) (h : COut d out) {s : Nat} (hs : s < d.n) (hl : Live d s) : cl (Rof d out) s = out.getD s 0 := by
  rw [rof_at out hs, if_neg (fun e => (rof_dead hd h (by omega)).1 e hl)]
theorem cRes_of {d : Dfa} {out : List Int} (hd : Ok d) (h : COut d out) : CRes d (Rof d out) := by
  refine ⟨by simp [Rof], fun s hs hl => ?_, fun s hs hl => ?_, fun s t hs ht hl hl' => ?_⟩
  · rw [rof_at out hs, if_pos ((rof_dead hd h (by omega)).2 hl)]
  · obtain ⟨r, r1, r2, _⟩ := h.at_ s (by omega)
    rw [rof_live hd h hs hl, getD_of r2]
    omega
  · obtain ⟨r, _, r2, _⟩ := h.at_ s (by omega)
    obtain ⟨q, _, q2, _⟩ := h.at_ t (by omega)
    have h1 := h.same (i := s) (j := t) (by omega) (by omega)
    rw [rof_live hd h hs hl, rof_live hd h ht hl', getD_of r2, getD_of q2, ← h1, r2, q2]
    constructor
    · intro e; rw [e]
    · intro e; injection e
theorem rof_rep {d : Dfa} {out : List Int} (hd : Ok d) (h : COut d out) {s : Nat} (hs : s < d.n) (hl : Live d s) : ∃ r : Nat, r < d.n ∧ Live d r ∧ cl (Rof d out) s = r ∧ cl (Rof d out) r = r := by
  obtain ⟨r, r1, r2, r3, r4⟩ := h.at_ s (by omega)
  have hlr : Live d r := r3.symm.live hl
  have e : cl (Rof d out) s = r := by rw [rof_live hd h hs hl, getD_of r2]
  exact ⟨r, by omega, hlr, e, (((cRes_of hd h).same r s (by omega) hs hlr hl).2 r3).trans e⟩
def clS (d : Dfa) (R : List Int) (s : Nat) (x : Int) : Option Int := (stp (d.arc s) x).bind (via (cl R))
structure TInv (d : Dfa) (R : List Int) (p : List Int) (s : Nat) (order0 : List Int) (k : Nat) (tos order : List Int) : Prop where
  len : tos.length = k
  pre : ∃ t, order = order0 ++ t
  nodup : order.Nodup
  from_ : ∀ c ∈ order, c ∈ order0 ∨ ∃ u : Nat, u < d.n ∧ Live d u ∧ cl R u = c
  scan : scanT tos order0.length = some order.length
  tg : ∀ j x, j < k → p[j]? = some x → match clS d R s x with
    | none => tos[j]? = some (-1)
    | some c => ∃ q : Nat, tos[j]? = some (q : Int) ∧ order[q]? = some c
theorem tInv_start {d : Dfa} {R : List Int} {p : List Int} {s : Nat} {order : List Int} (h : order.Nodup) : TInv d R p s order 0 [] order :=
  ⟨rfl, ⟨[], by simp⟩, h, fun c hc => .inl hc, rfl, fun j _ h => by omega⟩
section
variable {d : Dfa} {R p order0 tos order : List Int} {s k : Nat} {x c : Int}
theorem TInv.none (h : TInv d R p s order0 k tos order) (hx : p[k]? = some x) (hn : clS d R s x = none) : TInv d R p s order0 (k + 1) (tos ++ [-1]) order := by
  refine ⟨by simp [h.len], h.pre, h.nodup, h.from_, ?_, fun j y hj hy => ?_⟩
  · rw [scanT_snoc _ h.scan, if_pos (by omega)]
  · rcases Nat.lt_or_ge j k with hjk | hjk
    · have h1 := h.tg j y hjk hy
      revert h1
      cases clS d R s y with
      | none => exact fun h1 => by show (tos ++ [-1])[j]? = _; rw [List.getElem?_append_left (by rw [h.len]; exact hjk)]; exact h1
      | some c => exact fun ⟨q, h1, h2⟩ => ⟨q, by rw [List.getElem?_append_left (by rw [h.len]; exact hjk)]; exact h1, h2⟩
    · obtain rfl : j = k := by omega
      rw [hx] at hy
      injection hy with hy
      subst hy
      rw [hn]
      show (tos ++ [-1])[j]? = _
      rw [List.getElem?_append_right (by rw [h.len]; exact Nat.le_refl _), h.len, Nat.sub_self]
      rfl
theorem TInv.hit (h : TInv d R p s order0 k tos order) (hx : p[k]? = some x) (hn : clS d R s x = some c) {q : Nat} (hq : order[q]? = some c) : TInv d R p s order0 (k + 1) (tos ++ [(q : Int)]) order := by
  have hql := (List.getElem?_eq_some_iff.1 hq).1
  refine ⟨by simp [h.len], h.pre, h.nodup, h.from_, ?_, fun j y hj hy => ?_⟩
  · rw [scanT_snoc _ h.scan, if_pos (by omega)]
  · rcases Nat.lt_or_ge j k with hjk | hjk
    · have h1 := h.tg j y hjk hy
      revert h1
      cases clS d R s y with
      | none => exact fun h1 => by show (tos ++ [(q : Int)])[j]? = _; rw [List.getElem?_append_left (by rw [h.len]; exact hjk)]; exact h1
      | some c => exact fun ⟨q', h1, h2⟩ => ⟨q', by rw [List.getElem?_append_left (by rw [h.len]; exact hjk)]; exact h1, h2⟩
    · obtain rfl : j = k := by omega
      rw [hx] at hy
      injection hy with hy
      subst hy
      rw [hn]
      exact ⟨q, by rw [List.getElem?_append_right (by rw [h.len]; exact Nat.le_refl _), h.len, Nat.sub_self]; rfl, hq⟩
theorem TInv.miss (h : TInv d R p s order0 k tos order) (hx : p[k]? = some x) (hn : clS d R s x = some c) (hc : c ∉ order) (hu : ∃ u : Nat, u < d.n ∧ Live d u ∧ cl R u = c) : TInv d R p s order0 (k + 1) (tos ++ [(order.length : Int)]) (order ++ [c]) := by
  obtain ⟨t, ht⟩ := h.pre
  refine ⟨by simp [h.len], ⟨t ++ [c], by rw [ht, List.append_assoc]⟩, ?_, fun y hy => ?_, ?_, fun j y hj hy => ?_⟩
  · rw [List.nodup_append]
    refine ⟨h.nodup, by simp, fun a ha b hb e => ?_⟩
    rw [List.mem_singleton.1 hb] at e
    exact hc (e ▸ ha)
  · rcases List.mem_append.1 hy with hy | hy
    · exact h.from_ y hy
    · rw [List.mem_singleton.1 hy]
      exact .inr hu
  · rw [scanT_snoc _ h.scan, if_neg (by omega), if_pos rfl]
    simp
  · rcases Nat.lt_or_ge j k with hjk | hjk
    · have h1 := h.tg j y hjk hy
      revert h1
      cases clS d R s y with
      | none => exact fun h1 => by show (tos ++ [(order.length : Int)])[j]? = _; rw [List.getElem?_append_left (by rw [h.len]; exact hjk)]; exact h1
      | some c => exact fun ⟨q', h1, h2⟩ => ⟨q', by rw [List.getElem?_append_left (by rw [h.len]; exact hjk)]; exact h1, by rw [List.getElem?_append_left (List.getElem?_eq_some_iff.1 h2).1]; exact h2⟩
    · obtain rfl : j = k := by omega
      rw [hx] at hy
      injection hy with hy
      subst hy
      rw [hn]
      exact ⟨order.length, by rw [List.getElem?_append_right (by rw [h.len]; exact Nat.le_refl _), h.len, Nat.sub_self]; rfl, by rw [List.getElem?_append_right (Nat.le_refl _), Nat.sub_self]; rfl⟩
theorem TInv.lt (h : TInv d R p s order0 k tos order) : ∀ t ∈ tos, t < (order.length : Int) := (scanT_lt h.scan).2
theorem sInv_of (hd : Ok d) (hR : CRes d R) (hP : Pts d.arcs p) (hs : s < d.n) (hO : OInv d R order0) (h : TInv d R p s order0 p.length tos order) {row : List Arc} (hM : RwI order.length p tos p.length row) :
    SInv d R order0 (grp (cl R) (d.arc s)) (grp (cl R) (d.arc s)).length (row, order) := by
  obtain ⟨m1, m2, m3, m4⟩ := hM.end_ h.len
  obtain ⟨t, ht⟩ := h.pre
  have hrow : d.arc s ∈ d.arcs := by
    unfold Dfa.arc
    rw [Int.toNat_natCast, List.getD_eq_getElem?_getD, List.getElem?_eq_getElem hs]
    exact List.getElem_mem hs
  have hcls : ∀ u : Int, 0 ≤ u → u < d.n → cl R u = -1 ∨ (0 ≤ cl R u ∧ cl R u < (d.n : Int)) := fun u h0 h1 => by
    obtain ⟨u, rfl⟩ := Int.eq_ofNat_of_zero_le h0
    by_cases hl : Live d u
    · exact .inr (hR.live u (by omega) hl)
    · exact .inl (hR.dead u (by omega) hl)
  obtain ⟨g1, g2⟩ := grp_ok (m := d.n) (cl R) hcls (hd.arc_ok s)
  have gst : ∀ c, isC c → ∀ j y, p[j]? = some y → y ≤ c → c ≤ hiP p j → stp (grp (cl R) (d.arc s)) c = clS d R s y := fun c hc j y hy h1 h2 => by
    rw [grp_stp (cl R) hc (hd.arc_ok s), hP.const hrow (hd.arc_ok s) hy hc h1 h2]
    rfl
  have hnum : ∀ a ∈ grp (cl R) (d.arc s), ∃ q : Nat, order[q]? = some a.to := fun a ha => by
    obtain ⟨a1, a2⟩ := stp_arc g1 ha
    obtain ⟨j, y, hy, h1, h2⟩ := hP.cover a1
    have h3 := gst a.lo a1 j y hy h1 h2
    rw [a2] at h3
    have h4 := h.tg j y (List.getElem?_eq_some_iff.1 hy).1 hy
    rw [← h3] at h4
    obtain ⟨q, _, h5⟩ := h4
    exact ⟨q, h5⟩
  have hex : ∀ g : List Arc, (∀ a ∈ g, ∃ q : Nat, order[q]? = some a.to) → ∃ l, RInv g l order := by
    intro g
    induction g with
    | nil => exact fun _ => ⟨[], rfl, fun j a ha => by simp at ha⟩
    | cons a g ih =>
      intro hg
      obtain ⟨l, hl⟩ := ih (fun b hb => hg b (List.mem_cons_of_mem _ hb))
      obtain ⟨q, hq⟩ := hg a List.mem_cons_self
      refine ⟨⟨a.lo, a.hi, (q : Int)⟩ :: l, by simp [hl.len], fun j b hb => ?_⟩
      cases j with
      | zero =>
        simp only [List.getElem?_cons_zero, Option.some.injEq] at hb
        subst hb
        exact ⟨q, rfl, hq⟩
      | succ j =>
        obtain ⟨q', h1, h2⟩ := hl.at_ j b (by simpa using hb)
        exact ⟨q', by simpa using h1, h2⟩
  obtain ⟨l, hl⟩ := hex _ hnum
  have he : row = l := by
    refine uniq row l (-1) m1 (hl.ok g1) m2 (hl.mg g2) (fun r hr => ?_)
    obtain ⟨j, y, hy, h1, h2⟩ := hP.cover hr
    rw [m3 r hr j ⟨y, hy, h1, h2⟩]
    have h3 := gst r hr j y hy h1 h2
    have h4 := h.tg j y (List.getElem?_eq_some_iff.1 hy).1 hy
    rcases hl.stp (r := r) with ⟨q1, q2⟩ | ⟨c, k, q1, q2, q3⟩
    · rw [q1] at h3
      rw [← h3] at h4
      rw [q2]
      unfold tgt
      rw [h4]
      rfl
    · rw [q1] at h3
      rw [← h3] at h4
      obtain ⟨q, h5, h6⟩ := h4
      rw [q2]
      unfold tgt
      rw [h5]
      have : q = k := by
        have hq := (List.getElem?_eq_some_iff.1 h6).1
        exact (List.getElem?_inj hq h.nodup).1 (by rw [h6, q3])
      subst this
      show (if (q : Int) < 0 then none else some (q : Int)) = _
      rw [if_neg (by omega)]
  subst he
  refine ⟨⟨h.nodup, ?_, fun c hc => ?_⟩, ⟨t, ht⟩, by rw [List.take_length]; exact hl, m4 _ _ h.scan⟩
  · show order[0]? = _
    rw [ht, List.getElem?_append_left (List.getElem?_eq_some_iff.1 hO.head).1]
    exact hO.head
  · rcases h.from_ c hc with h1 | h1
    · exact hO.from_ c h1
    · exact h1
end
def MM (d : Dfa) (R : List Int) (out : List Int) (arcs : List (List Arc)) (labs order : List Int) : Prop :=
  (Live d d.start ∧ BInv d R arcs labs order) ∨
  (¬ Live d d.start ∧ order = [out.getD d.n 0] ∧ ((arcs = [] ∧ labs = []) ∨ (arcs = [[]] ∧ labs = [-1])))
section
variable {d : Dfa} {out : List Int}
theorem mm_start (hd : Ok d) (h : COut d out) : MM d (Rof d out) out [] [] [out.getD d.start.toNat 0] := by
  have h0 := hd.st0
  have h1 := hd.st1
  have hs : d.start.toNat < d.n := by omega
  have he : ((d.start.toNat : Nat) : Int) = d.start := by omega
  by_cases hl : Live d d.start
  · have hb := bInv_start (R := Rof d out) hd hl
    rw [← he, rof_live hd h hs (by rw [he]; exact hl)] at hb
    exact .inl ⟨hl, hb⟩
  · refine .inr ⟨hl, ?_, .inl ⟨rfl, rfl⟩⟩
    rw [(rof_dead hd h (by omega)).2 (by rw [he]; exact hl)]
theorem mm_at (hd : Ok d) (h : COut d out) {arcs : List (List Arc)} {labs order : List Int} (hM : MM d (Rof d out) out arcs labs order) {s : Int} (hs : order[arcs.length]? = some s) :
    ∃ r : Nat, s = r ∧ r ≤ d.n ∧ order.Nodup ∧ labs.length = arcs.length ∧ order.length ≤ d.n + 1 ∧ (∀ x c, isC x → clS d (Rof d out) r x = some c → Live d d.start) := by
  rcases hM with ⟨hl, hB⟩ | ⟨hl, rfl, hB⟩
  · obtain ⟨u, u1, u2, u3⟩ := hB.o.from_ s (List.mem_of_getElem? hs)
    obtain ⟨r, r1, r2, r3, _⟩ := rof_rep hd h u1 u2
    have := hB.o.len (cRes_of hd h)
    exact ⟨r, by rw [← u3, r3], by omega, hB.o.nodup, hB.lenl, by omega, fun _ _ _ _ => hl⟩
  · obtain ⟨q, q1, q2, q3, _⟩ := h.at_ d.n (Nat.le_refl _)
    have ha : arcs.length = 0 := by
      have := (List.getElem?_eq_some_iff.1 hs).1
      simp at this
      exact this ▸ rfl
    rw [ha] at hs
    have hsq : s = q := by
      simp at hs
      rw [← hs]
      have := getD_of (z := 0) q2
      rw [List.getD_eq_getElem?_getD] at this
      exact this
    refine ⟨q, hsq, q1, by simp, by rcases hB with ⟨rfl, rfl⟩ | ⟨rfl, rfl⟩ <;> rfl, by simp, fun x c hx hc => ?_⟩
    exfalso
    have hdead : ¬ Live d q := by
      rw [live_iff hd, Classical.not_not]
      exact q3
    unfold clS at hc
    cases hst : stp (d.arc q) x with
    | none => rw [hst] at hc; cases hc
    | some t =>
      obtain ⟨m, rfl, hm⟩ := stp_in hd hst
      rw [hst, Option.bind_some] at hc
      unfold via at hc
      by_cases hlm : Live d m
      · exact hdead (hlm.back hx hst)
      · rw [if_pos ((cRes_of hd h).dead m hm hlm)] at hc
        cases hc
theorem mm_row (hd : Ok d) (h : COut d out) {p : List Int} (hP : Pts d.arcs p) {arcs : List (List Arc)} {labs order : List Int} (hM : MM d (Rof d out) out arcs labs order) {r : Nat} (hs : order[arcs.length]? = some (r : Int))
    {tos order' : List Int} (hT : TInv d (Rof d out) p r order p.length tos order') {row : List Arc} (hR : RwI order'.length p tos p.length row) : MM d (Rof d out) out (arcs ++ [row]) (labs ++ [d.lab r]) order' := by
  obtain ⟨r', hr', hrn, _, _, _, hlive⟩ := mm_at hd h hM hs
  obtain rfl : r = r' := by omega
  have hres := cRes_of hd h
  rcases hM with ⟨hl, hB⟩ | ⟨hl, rfl, hB⟩
  · obtain ⟨u, u1, u2, u3⟩ := hB.o.from_ _ (List.mem_of_getElem? hs)
    obtain ⟨q, r1, r2, r3, r4⟩ := rof_rep hd h u1 u2
    rw [r3] at u3
    obtain rfl : q = r := by omega
    exact .inl ⟨hl, bInv_row hB hs r1 r2 r4 (sInv_of hd hres hP r1 hB.o hT hR)⟩
  · have hnone : ∀ x, isC x → clS d (Rof d out) r x = none := fun x hx => by
      cases hc : clS d (Rof d out) r x with
      | none => rfl
      | some c => exact absurd (hlive x c hx hc) hl
    have hto : ∀ j, j < p.length → tos[j]? = some (-1) := fun j hj => by
      have := hT.tg j _ hj (List.getElem?_eq_getElem hj)
      rw [hnone _ (hP.isC _ (List.getElem_mem hj))] at this
      exact this
    have hord : order' = [out.getD d.n 0] := by
      have hsc := hT.scan
      have hlt : ∀ t ∈ tos, t = -1 := fun t ht => by
        obtain ⟨j, hj⟩ := List.getElem?_of_mem ht
        have h1 := (List.getElem?_eq_some_iff.1 hj).1
        rw [hto j (by rw [← hT.len]; exact h1)] at hj
        injection hj with hj
        exact hj.symm
      have key : ∀ (l : List Int) (c : Nat), (∀ t ∈ l, t = -1) → scanT l c = some c := by
        intro l
        induction l with
        | nil => exact fun _ _ => rfl
        | cons t l ih =>
          intro c hc
          unfold scanT
          rw [hc t List.mem_cons_self, if_pos (by omega)]
          exact ih c (fun t ht => hc t (List.mem_cons_of_mem _ ht))
      rw [key tos _ hlt] at hsc
      injection hsc with hsc
      obtain ⟨t, ht⟩ := hT.pre
      rw [ht] at hsc ⊢
      simp at hsc
      rw [hsc]
      rfl
    obtain ⟨m1, m2, m3, _⟩ := hR.end_ hT.len
    have hrow : row = [] := uniq (n := order'.length) (m := order'.length) row [] (-1) m1 trivial m2 trivial (fun c hc => by
      obtain ⟨j, y, hy, h1, h2⟩ := hP.cover hc
      rw [m3 c hc j ⟨y, hy, h1, h2⟩]
      unfold tgt
      rw [hto j (List.getElem?_eq_some_iff.1 hy).1]
      rfl)
    have ha : arcs = [] ∧ labs = [] := by
      rcases hB with hB | ⟨rfl, rfl⟩
      · exact hB
      · simp at hs
    obtain ⟨rfl, rfl⟩ := ha
    have hlab : d.lab r = -1 := by
      have hdead : ¬ Live d r := by
        obtain ⟨q, q1, q2, q3, _⟩ := h.at_ d.n (Nat.le_refl _)
        have e : (r : Int) = (q : Int) := by
          have h1 := getD_of (z := 0) q2
          rw [List.getD_eq_getElem?_getD] at h1
          simp at hs
          rw [← hs]
          exact h1
        obtain rfl : r = q := by omega
        rw [live_iff hd, Classical.not_not]
        exact q3
      rcases Classical.em (d.lab r = -1) with h1 | h1
      · exact h1
      · exact absurd (Live.lab h1) hdead
    refine .inr ⟨hl, hord, .inr ⟨by rw [hrow]; rfl, by rw [hlab]; rfl⟩⟩
theorem mm_le (hd : Ok d) (h : COut d out) {arcs : List (List Arc)} {labs order : List Int} (hM : MM d (Rof d out) out arcs labs order) : arcs.length ≤ order.length ∧ labs.length = arcs.length ∧ order.length ≤ d.n + 1 := by
  rcases hM with ⟨hl, hB⟩ | ⟨hl, rfl, ⟨rfl, rfl⟩ | ⟨rfl, rfl⟩⟩
  · have := hB.o.len (cRes_of hd h)
    exact ⟨hB.le, hB.lenl, by omega⟩
  · simp
  · simp
theorem mm_end (hd : Ok d) (h : COut d out) {arcs : List (List Arc)} {labs order : List Int} (hM : MM d (Rof d out) out arcs labs order) (hlen : order.length ≤ arcs.length) :
    (¬ Live d d.start ∧ (⟨0, arcs, labs⟩ : Dfa) = ⟨0, [[]], [-1]⟩) ∨ (Live d d.start ∧ (⟨0, arcs, labs⟩ : Dfa).start = 0 ∧ ∃ R order, CRes d R ∧ BInv d R arcs labs order ∧ order.length = arcs.length) := by
  rcases hM with ⟨hl, hB⟩ | ⟨hl, rfl, ⟨rfl, rfl⟩ | ⟨rfl, rfl⟩⟩
  · exact .inr ⟨hl, rfl, _, order, cRes_of hd h, hB, by have := hB.le; omega⟩
  · simp at hlen
  · exact .inl ⟨hl, rfl⟩
end
end Go.Proofs.YthohahcpdgebbaaDoor.Th
