/- Proved: what a part of the given program (its deterministic automata, and the functions that they call) computes, and laws on that, under the conditions that each theorem names. -/

namespace Go.Proofs.YthohahcpdgebbaaDoor.Th
structure Arc where
  lo : Int
  hi : Int
  to : Int
deriving DecidableEq, Inhabited
def isC (r : Int) : Prop := (0 ≤ r ∧ r ≤ 0xD7FF) ∨ (0xE000 ≤ r ∧ r ≤ 0x10FFFF)
instance (r : Int) : Decidable (isC r) := by unfold isC; exact inferInstance
def nx (r : Int) : Int := if r = 0xD7FF then 0xE000 else r + 1
def pv (r : Int) : Int := if r = 0xE000 then 0xD7FF else r - 1
theorem nx_gt (r : Int) : r < nx r := by unfold nx; split <;> omega
theorem nx_le {c r : Int} (_hc : isC c) (hr : isC r) (h : c < r) : nx c ≤ r := by unfold isC at *; unfold nx; split <;> omega
theorem nx_C {c r : Int} (hc : isC c) (hr : isC r) (h : c < r) : isC (nx c) := by unfold isC at *; unfold nx; split <;> omega
def okA (n : Int) : Int → List Arc → Prop
  | _, [] => True
  | b, a :: l => b < a.lo ∧ isC a.lo ∧ isC a.hi ∧ a.lo ≤ a.hi ∧ 0 ≤ a.to ∧ a.to < n ∧ okA n a.hi l
theorem okA.lower {n b b' : Int} {l : List Arc} (h : okA n b l) (hb : b' ≤ b) : okA n b' l := by
  cases l with
  | nil => trivial
  | cons a l =>
    obtain ⟨h1, h2⟩ := h
    exact ⟨by omega, h2⟩
theorem okA.wider {n m : Int} (hn : n ≤ m) : ∀ {b : Int} {l : List Arc}, okA n b l → okA m b l
  | _, [], _ => trivial
  | _, _ :: _, ⟨h1, h2, h3, h4, h5, h6, h7⟩ => ⟨h1, h2, h3, h4, h5, by omega, h7.wider hn⟩
def stp : List Arc → Int → Option Int
  | [], _ => none
  | a :: l, r => if a.lo ≤ r ∧ r ≤ a.hi then some a.to else stp l r
theorem stp_low {n : Int} : ∀ {l : List Arc} {b r : Int}, okA n b l → r ≤ b → stp l r = none
  | [], _, _, _, _ => rfl
  | a :: l, b, r, ⟨h1, h2, h3, h4, h5, h6, h7⟩, hr => by
    unfold stp
    rw [if_neg (by omega)]
    exact stp_low h7 (by omega)
theorem stp_range {n : Int} : ∀ {l : List Arc} {b r t : Int}, okA n b l → stp l r = some t → 0 ≤ t ∧ t < n ∧ b < r
  | [], _, _, _, _, h => by simp [stp] at h
  | a :: l, b, r, t, ⟨h1, h2, h3, h4, h5, h6, h7⟩, h => by
    unfold stp at h
    split at h
    · injection h with h
      subst h
      exact ⟨h5, h6, by omega⟩
    · have := stp_range h7 h
      exact ⟨this.1, this.2.1, by omega⟩
def mg : List Arc → Prop
  | a :: b :: l => ¬(a.to = b.to ∧ nx a.hi = b.lo) ∧ mg (b :: l)
  | _ => True
theorem mg.tail {a : Arc} {l : List Arc} (h : mg (a :: l)) : mg l := by
  cases l with
  | nil => trivial
  | cons b l => exact h.2
theorem uniq_hi {n m : Int} {a b : Arc} {l1 l2 : List Arc} {c1 c2 : Int} (o1 : okA n c1 (a :: l1)) (o2 : okA m c2 (b :: l2)) (m1 : mg (a :: l1)) (hto : a.to = b.to) (hlo : a.lo = b.lo)
    (h : ∀ r, isC r → stp (a :: l1) r = stp (b :: l2) r) : b.hi ≤ a.hi := by
  rcases Int.lt_or_le a.hi b.hi with hlt | hle
  · exfalso
    obtain ⟨_, p2, p3, p4, p5, p6, p7⟩ := o1
    obtain ⟨_, q2, q3, q4, q5, q6, q7⟩ := o2
    have hc := nx_C p3 q3 hlt
    have hl := nx_le p3 q3 hlt
    have hg := nx_gt a.hi
    have hr := h (nx a.hi) hc
    have e2 : stp (b :: l2) (nx a.hi) = some b.to := by unfold stp; rw [if_pos (by omega)]
    have e1 : stp (a :: l1) (nx a.hi) = stp l1 (nx a.hi) := by rw [stp, if_neg (by omega)]
    rw [e1, e2] at hr
    cases l1 with
    | nil => simp [stp] at hr
    | cons x l1 =>
      obtain ⟨x1, x2, x3, x4, x5, x6, x7⟩ := p7
      have hx := nx_le p3 x2 x1
      unfold stp at hr
      split at hr
      · injection hr with hr
        exact m1.1 ⟨by omega, by omega⟩
      · rw [stp_low x7 (by omega)] at hr
        cases hr
  · exact hle
theorem uniq {n m : Int} : ∀ (l1 l2 : List Arc) (b : Int), okA n b l1 → okA m b l2 → mg l1 → mg l2 → (∀ r, isC r → stp l1 r = stp l2 r) → l1 = l2
  | [], [], _, _, _, _, _, _ => rfl
  | [], a :: l, b, _, o, _, _, h => by
    obtain ⟨h1, h2, h3, h4, _⟩ := o
    have := h a.lo h2
    rw [stp, stp, if_pos (by omega)] at this
    cases this
  | a :: l, [], b, o, _, _, _, h => by
    obtain ⟨h1, h2, h3, h4, _⟩ := o
    have := h a.lo h2
    rw [stp, stp, if_pos (by omega)] at this
    cases this
  | a :: l1, x :: l2, b, o1, o2, m1, m2, h => by
    have hlo : a.lo = x.lo := by
      have ha := h a.lo o1.2.1
      have hx := h x.lo o2.2.1
      have e1 : stp (a :: l1) a.lo = some a.to := by unfold stp; rw [if_pos ⟨by omega, o1.2.2.2.1⟩]
      have e2 : stp (x :: l2) x.lo = some x.to := by unfold stp; rw [if_pos ⟨by omega, o2.2.2.2.1⟩]
      rw [e1] at ha
      rw [e2] at hx
      have g1 : ¬ a.lo < x.lo := fun hlt => by
        rw [stp_low (n := m) (b := a.lo) (l := x :: l2) (by exact ⟨hlt, o2.2⟩) (Int.le_refl _)] at ha
        cases ha
      have g2 : ¬ x.lo < a.lo := fun hlt => by
        rw [stp_low (n := n) (b := x.lo) (l := a :: l1) (by exact ⟨hlt, o1.2⟩) (Int.le_refl _)] at hx
        cases hx
      omega
    have hto : a.to = x.to := by
      have ha := h a.lo o1.2.1
      rw [stp, stp, if_pos ⟨by omega, o1.2.2.2.1⟩, if_pos ⟨by omega, by have := o2.2.2.2.1; omega⟩] at ha
      injection ha
    have hhi : a.hi = x.hi := by
      have g1 := uniq_hi o1 o2 m1 hto hlo h
      have g2 := uniq_hi o2 o1 m2 hto.symm hlo.symm (fun r hr => (h r hr).symm)
      omega
    have hax : a = x := by cases a; cases x; simp_all
    subst hax
    rw [uniq l1 l2 a.hi o1.2.2.2.2.2.2 o2.2.2.2.2.2.2 m1.tail m2.tail fun r hr => by
      rcases Int.lt_or_le a.hi r with hlt | hle
      · have := h r hr
        rw [stp, stp, if_neg (by omega), if_neg (by omega)] at this
        exact this
      · rw [stp_low o1.2.2.2.2.2.2 hle, stp_low o2.2.2.2.2.2.2 hle]]
def grpR (cls : Int → Int) : Option Arc → List Arc → List Arc
  | none, [] => []
  | some c, [] => [c]
  | none, a :: l => if cls a.to = -1 then grpR cls none l else grpR cls (some ⟨a.lo, a.hi, cls a.to⟩) l
  | some c, a :: l =>
    if cls a.to = -1 then grpR cls (some c) l
    else if c.to = cls a.to ∧ nx c.hi = a.lo then grpR cls (some ⟨c.lo, a.hi, c.to⟩) l
    else c :: grpR cls (some ⟨a.lo, a.hi, cls a.to⟩) l
def grp (cls : Int → Int) (l : List Arc) : List Arc := grpR cls none l
def via (cls : Int → Int) (t : Int) : Option Int := if cls t = -1 then none else some (cls t)
theorem grpR_some_stp {n : Int} (cls : Int → Int) (r : Int) (hr : isC r) : ∀ (l : List Arc) (b : Int) (c : Arc), okA n b l → c.hi ≤ b → isC c.lo → isC c.hi → c.lo ≤ c.hi →
    stp (grpR cls (some c) l) r = if c.lo ≤ r ∧ r ≤ c.hi then some c.to else (stp l r).bind (via cls)
  | [], b, c, _, _, _, _, _ => by simp [grpR, stp]
  | a :: l, b, c, ⟨h1, h2, h3, h4, h5, h6, h7⟩, hcb, hc1, hc2, hc3 => by
    unfold grpR
    by_cases k1 : cls a.to = -1
    · rw [if_pos k1, grpR_some_stp cls r hr l a.hi c h7 (by omega) hc1 hc2 hc3]
      by_cases k2 : c.lo ≤ r ∧ r ≤ c.hi
      · rw [if_pos k2, if_pos k2]
      · rw [if_neg k2, if_neg k2, stp]
        by_cases k3 : a.lo ≤ r ∧ r ≤ a.hi
        · rw [if_pos k3, stp_low h7 k3.2]
          simp [via, k1]
        · rw [if_neg k3]
    · rw [if_neg k1]
      by_cases k2 : c.to = cls a.to ∧ nx c.hi = a.lo
      · rw [if_pos k2, grpR_some_stp cls r hr l a.hi ⟨c.lo, a.hi, c.to⟩ h7 (by simp) hc1 h3 (by show c.lo ≤ a.hi; omega)]
        have hg := nx_gt c.hi
        by_cases k3 : c.lo ≤ r ∧ r ≤ c.hi
        · rw [if_pos (show c.lo ≤ r ∧ r ≤ a.hi by omega), if_pos k3]
        · rw [if_neg k3, stp]
          by_cases k4 : a.lo ≤ r ∧ r ≤ a.hi
          · rw [if_pos (show c.lo ≤ r ∧ r ≤ a.hi by omega), if_pos k4]
            simp [via, k1, k2.1]
          · have : ¬ (c.lo ≤ r ∧ r ≤ a.hi) := by
              intro hh
              have : c.hi < r := by omega
              have := nx_le hc2 hr this
              omega
            rw [if_neg this, if_neg k4]
      · rw [if_neg k2, stp]
        by_cases k3 : c.lo ≤ r ∧ r ≤ c.hi
        · rw [if_pos k3, if_pos k3]
        · rw [if_neg k3, if_neg k3, grpR_some_stp cls r hr l a.hi ⟨a.lo, a.hi, cls a.to⟩ h7 (by simp) h2 h3 h4, stp]
          by_cases k4 : a.lo ≤ r ∧ r ≤ a.hi
          · rw [if_pos k4, if_pos k4]
            simp [via, k1]
          · rw [if_neg k4, if_neg k4]
theorem grp_stp {n b : Int} (cls : Int → Int) {r : Int} (hr : isC r) : ∀ {l : List Arc}, okA n b l → stp (grp cls l) r = (stp l r).bind (via cls) := by
  intro l h
  unfold grp
  induction l generalizing b with
  | nil => simp [grpR, stp]
  | cons a l ih =>
    obtain ⟨h1, h2, h3, h4, h5, h6, h7⟩ := h
    unfold grpR
    by_cases k1 : cls a.to = -1
    · rw [if_pos k1, ih h7, stp]
      by_cases k3 : a.lo ≤ r ∧ r ≤ a.hi
      · rw [if_pos k3, stp_low h7 k3.2]
        simp [via, k1]
      · rw [if_neg k3]
    · rw [if_neg k1, grpR_some_stp cls r hr l a.hi ⟨a.lo, a.hi, cls a.to⟩ h7 (by simp) h2 h3 h4, stp]
      by_cases k4 : a.lo ≤ r ∧ r ≤ a.hi
      · rw [if_pos k4, if_pos k4]
        simp [via, k1]
      · rw [if_neg k4, if_neg k4]
theorem grpR_some_ok {n m : Int} (cls : Int → Int) (hm : ∀ t, 0 ≤ t → t < n → cls t = -1 ∨ (0 ≤ cls t ∧ cls t < m)) : ∀ (l : List Arc) (b b0 : Int) (c : Arc), okA n b l → c.hi ≤ b → b0 < c.lo → isC c.lo → isC c.hi → c.lo ≤ c.hi → 0 ≤ c.to → c.to < m →
    okA m b0 (grpR cls (some c) l) ∧ mg (grpR cls (some c) l) ∧ ∃ x t, grpR cls (some c) l = x :: t ∧ x.lo = c.lo ∧ x.to = c.to
  | [], b, b0, c, _, _, h0, hc1, hc2, hc3, hc4, hc5 => ⟨⟨h0, hc1, hc2, hc3, hc4, hc5, trivial⟩, trivial, c, [], rfl, rfl, rfl⟩
  | a :: l, b, b0, c, ⟨h1, h2, h3, h4, h5, h6, h7⟩, hcb, h0, hc1, hc2, hc3, hc4, hc5 => by
    unfold grpR
    by_cases k1 : cls a.to = -1
    · rw [if_pos k1]
      exact grpR_some_ok cls hm l a.hi b0 c h7 (by omega) h0 hc1 hc2 hc3 hc4 hc5
    · rw [if_neg k1]
      by_cases k2 : c.to = cls a.to ∧ nx c.hi = a.lo
      · rw [if_pos k2]
        exact grpR_some_ok cls hm l a.hi b0 ⟨c.lo, a.hi, c.to⟩ h7 (by simp) h0 hc1 h3 (by show c.lo ≤ a.hi; omega) hc4 hc5
      · rw [if_neg k2]
        have hcl := (hm a.to h5 h6).resolve_left k1
        obtain ⟨i1, i2, x, t, i3, i4, i5⟩ := grpR_some_ok cls hm l a.hi c.hi ⟨a.lo, a.hi, cls a.to⟩ h7 (by simp) (by show c.hi < a.lo; omega) h2 h3 h4 hcl.1 hcl.2
        refine ⟨⟨h0, hc1, hc2, hc3, hc4, hc5, i1⟩, ?_, c, _, rfl, rfl, rfl⟩
        rw [i3] at i2 ⊢
        exact ⟨fun hh => k2 ⟨by rw [hh.1, i5], by rw [hh.2, i4]⟩, i2⟩
theorem grp_ok {n m b : Int} (cls : Int → Int) (hm : ∀ t, 0 ≤ t → t < n → cls t = -1 ∨ (0 ≤ cls t ∧ cls t < m)) : ∀ {l : List Arc}, okA n b l → okA m b (grp cls l) ∧ mg (grp cls l) := by
  intro l h
  unfold grp
  induction l generalizing b with
  | nil => exact ⟨trivial, trivial⟩
  | cons a l ih =>
    obtain ⟨h1, h2, h3, h4, h5, h6, h7⟩ := h
    unfold grpR
    by_cases k1 : cls a.to = -1
    · rw [if_pos k1]
      have := ih (h7.lower (show b ≤ a.hi by omega))
      exact this
    · rw [if_neg k1]
      have hcl := (hm a.to h5 h6).resolve_left k1
      have := grpR_some_ok cls hm l a.hi b ⟨a.lo, a.hi, cls a.to⟩ h7 (by simp) (by show b < a.lo; omega) h2 h3 h4 hcl.1 hcl.2
      exact ⟨this.1, this.2.1⟩
theorem grp_eq {n n' b b' : Int} (cls cls' : Int → Int) {l l' : List Arc} (h : okA n b l) (h' : okA n' b' l') (hm : ∀ t, 0 ≤ t → t < n → cls t = -1 ∨ 0 ≤ cls t) (hm' : ∀ t, 0 ≤ t → t < n' → cls' t = -1 ∨ 0 ≤ cls' t)
    (he : ∀ r, isC r → (stp l r).bind (via cls) = (stp l' r).bind (via cls')) : grp cls l = grp cls' l' := by
  have bound : ∀ (c : Int → Int) (k : Nat), ∃ m : Int, 0 ≤ m ∧ ∀ t, 0 ≤ t → t < (k : Int) → c t < m := by
    intro c k
    induction k with
    | zero => exact ⟨0, by omega, fun t h0 h1 => by omega⟩
    | succ k ih =>
      obtain ⟨m, hm0, hm⟩ := ih
      refine ⟨max m (c k + 1), by omega, fun t h0 h1 => ?_⟩
      by_cases hk : t = k
      · subst hk; omega
      · have := hm t h0 (by omega); omega
  obtain ⟨m, _, hb⟩ := bound cls n.toNat
  obtain ⟨m', _, hb'⟩ := bound cls' n'.toNat
  have o := grp_ok (m := m) cls (fun t h0 h1 => (hm t h0 h1).imp_right (fun hx => ⟨hx, hb t h0 (by omega)⟩)) (h.lower (Int.min_le_left b b'))
  have o' := grp_ok (m := m') cls' (fun t h0 h1 => (hm' t h0 h1).imp_right (fun hx => ⟨hx, hb' t h0 (by omega)⟩)) (h'.lower (Int.min_le_right b b'))
  exact uniq _ _ _ o.1 o'.1 o.2 o'.2 fun r hr => by rw [grp_stp cls hr h, grp_stp cls' hr h']; exact he r hr
def grpStep (cls : Int → Int) (out : List Arc) (a : Arc) : List Arc :=
  if cls a.to = -1 then out
  else match out.getLast? with
    | some c => if c.to = cls a.to ∧ nx c.hi = a.lo then out.dropLast ++ [⟨c.lo, a.hi, c.to⟩] else out ++ [⟨a.lo, a.hi, cls a.to⟩]
    | none => out ++ [⟨a.lo, a.hi, cls a.to⟩]
theorem grpStep_some (cls : Int → Int) (pre : List Arc) (c a : Arc) : grpStep cls (pre ++ [c]) a = if cls a.to = -1 then pre ++ [c] else if c.to = cls a.to ∧ nx c.hi = a.lo then pre ++ [⟨c.lo, a.hi, c.to⟩] else (pre ++ [c]) ++ [⟨a.lo, a.hi, cls a.to⟩] := by
  unfold grpStep
  simp only [List.getLast?_append, List.getLast?_singleton, Option.some_or, List.dropLast_concat]
theorem grpStep_len (cls : Int → Int) (out : List Arc) (a : Arc) : (grpStep cls out a).length ≤ out.length + 1 := by
  rcases List.eq_nil_or_concat out with rfl | ⟨pre, c, rfl⟩
  · have e : grpStep cls [] a = if cls a.to = -1 then [] else [⟨a.lo, a.hi, cls a.to⟩] := by simp [grpStep]
    rw [e]
    split <;> simp
  · rw [List.concat_eq_append, grpStep_some]
    repeat' split
    all_goals simp
theorem foldl_grpStep_len (cls : Int → Int) : ∀ (l out : List Arc), (l.foldl (grpStep cls) out).length ≤ out.length + l.length
  | [], out => by simp
  | a :: l, out => by
    have h1 := foldl_grpStep_len cls l (grpStep cls out a)
    have h2 := grpStep_len cls out a
    simp only [List.foldl_cons, List.length_cons]
    omega
theorem grpStep_hi (P : Int → Prop) (cls : Int → Int) (out : List Arc) (a : Arc) (ha : P a.hi) (ho : ∀ x ∈ out, P x.hi) : ∀ x ∈ grpStep cls out a, P x.hi := by
  rcases List.eq_nil_or_concat out with rfl | ⟨pre, c, rfl⟩
  · have e : grpStep cls [] a = if cls a.to = -1 then [] else [⟨a.lo, a.hi, cls a.to⟩] := by simp [grpStep]
    rw [e]
    split
    · simp
    · simpa using ha
  · rw [List.concat_eq_append] at ho ⊢
    rw [grpStep_some]
    repeat' split
    · exact ho
    · intro x hx
      rcases List.mem_append.1 hx with hx | hx
      · exact ho x (List.mem_append_left _ hx)
      · simp at hx; subst hx; exact ha
    · intro x hx
      rcases List.mem_append.1 hx with hx | hx
      · exact ho x hx
      · simp at hx; subst hx; exact ha
theorem foldl_grpStep_hi (P : Int → Prop) (cls : Int → Int) : ∀ (l out : List Arc), (∀ a ∈ l, P a.hi) → (∀ x ∈ out, P x.hi) → ∀ x ∈ l.foldl (grpStep cls) out, P x.hi
  | [], _, _, h => h
  | a :: l, out, hl, h => foldl_grpStep_hi P cls l _ (fun b hb => hl b (List.mem_cons_of_mem _ hb)) (grpStep_hi P cls out a (hl a List.mem_cons_self) h)
theorem foldl_grpStep_some (cls : Int → Int) : ∀ (l pre : List Arc) (c : Arc), l.foldl (grpStep cls) (pre ++ [c]) = pre ++ grpR cls (some c) l
  | [], pre, c => by simp [grpR]
  | a :: l, pre, c => by
    rw [List.foldl_cons, grpStep_some]
    unfold grpR
    by_cases k1 : cls a.to = -1
    · rw [if_pos k1, if_pos k1, foldl_grpStep_some cls l pre c]
    · rw [if_neg k1, if_neg k1]
      by_cases k2 : c.to = cls a.to ∧ nx c.hi = a.lo
      · rw [if_pos k2, if_pos k2, foldl_grpStep_some cls l pre]
      · rw [if_neg k2, if_neg k2, foldl_grpStep_some cls l (pre ++ [c]), List.append_assoc, List.singleton_append]
theorem foldl_grpStep (cls : Int → Int) : ∀ (l : List Arc), l.foldl (grpStep cls) [] = grp cls l
  | [] => by simp [grp, grpR]
  | a :: l => by
    have e : grpStep cls [] a = if cls a.to = -1 then [] else [⟨a.lo, a.hi, cls a.to⟩] := by simp [grpStep]
    rw [List.foldl_cons, e]
    unfold grp grpR
    by_cases k1 : cls a.to = -1
    · rw [if_pos k1, if_pos k1]
      exact foldl_grpStep cls l
    · rw [if_neg k1, if_neg k1]
      exact foldl_grpStep_some cls l [] _
end Go.Proofs.YthohahcpdgebbaaDoor.Th
namespace Go.Proofs.YthohahcpdgebbaaDoor.Th
structure Dfa where
  start : Int
  arcs : List (List Arc)
  labels : List Int
deriving DecidableEq
def Dfa.n (d : Dfa) : Nat := d.arcs.length
def Dfa.arc (d : Dfa) (s : Int) : List Arc := d.arcs.getD s.toNat []
def Dfa.lab (d : Dfa) (s : Int) : Int := d.labels.getD s.toNat (-1)
structure Ok (d : Dfa) : Prop where
  pos : 1 ≤ d.n
  lim : d.n ≤ 3000
  len : d.labels.length = d.n
  st0 : 0 ≤ d.start
  st1 : d.start < d.n
  labs : ∀ x ∈ d.labels, -1 ≤ x
  arcs : ∀ l ∈ d.arcs, okA d.n (-1) l
theorem Ok.arc_ok {d : Dfa} (h : Ok d) (s : Int) : okA d.n (-1) (d.arc s) := by
  unfold Dfa.arc
  rw [List.getD_eq_getElem?_getD]
  cases hs : d.arcs[s.toNat]? with
  | none => trivial
  | some l => exact h.arcs l (List.mem_of_getElem? hs)
theorem Ok.lab_ge {d : Dfa} (h : Ok d) (s : Int) : -1 ≤ d.lab s := by
  unfold Dfa.lab
  rw [List.getD_eq_getElem?_getD]
  cases hs : d.labels[s.toNat]? with
  | none => simp
  | some l => exact h.labs l (List.mem_of_getElem? hs)
def run (d : Dfa) : Int → List Int → Int
  | s, [] => d.lab s
  | s, r :: w => match stp (d.arc s) r with
    | some t => run d t w
    | none => -1
def allC (w : List Int) : Prop := ∀ r ∈ w, isC r
def Live (d : Dfa) (s : Int) : Prop := ∃ w, allC w ∧ run d s w ≠ -1
def Eqv (d : Dfa) (s : Int) (d' : Dfa) (s' : Int) : Prop := ∀ w, allC w → run d s w = run d' s' w
theorem allC_nil : allC [] := fun _ h => by cases h
theorem allC_cons {r : Int} {w : List Int} : allC (r :: w) ↔ isC r ∧ allC w := by simp [allC]
theorem Eqv.refl (d : Dfa) (s : Int) : Eqv d s d s := fun _ _ => rfl
theorem Eqv.symm {d d' : Dfa} {s s' : Int} (h : Eqv d s d' s') : Eqv d' s' d s := fun w hw => (h w hw).symm
theorem Eqv.trans {d d' d'' : Dfa} {s s' s'' : Int} (h : Eqv d s d' s') (h' : Eqv d' s' d'' s'') : Eqv d s d'' s'' := fun w hw => (h w hw).trans (h' w hw)
theorem Eqv.live {d d' : Dfa} {s s' : Int} (h : Eqv d s d' s') (hl : Live d s) : Live d' s' := by
  obtain ⟨w, hw, hr⟩ := hl
  exact ⟨w, hw, by rw [← h w hw]; exact hr⟩
theorem dead {d : Dfa} {s : Int} (h : ¬ Live d s) {w : List Int} (hw : allC w) : run d s w = -1 := by
  rcases Int.decEq (run d s w) (-1) with hne | he
  · exact absurd ⟨w, hw, hne⟩ h
  · exact he
theorem run_cons_some {d : Dfa} {s t r : Int} {w : List Int} (h : stp (d.arc s) r = some t) : run d s (r :: w) = run d t w := by simp [run, h]
theorem run_cons_none {d : Dfa} {s r : Int} {w : List Int} (h : stp (d.arc s) r = none) : run d s (r :: w) = -1 := by simp [run, h]
theorem Live.back {d : Dfa} {s t r : Int} (hr : isC r) (h : stp (d.arc s) r = some t) (hl : Live d t) : Live d s := by
  obtain ⟨w, hw, hn⟩ := hl
  exact ⟨r :: w, allC_cons.2 ⟨hr, hw⟩, by rw [run_cons_some h]; exact hn⟩
theorem Eqv.step {d d' : Dfa} {s s' t t' r : Int} (h : Eqv d s d' s') (hr : isC r) (e : stp (d.arc s) r = some t) (e' : stp (d'.arc s') r = some t') : Eqv d t d' t' := fun w hw => by
  have := h (r :: w) (allC_cons.2 ⟨hr, hw⟩)
  rwa [run_cons_some e, run_cons_some e'] at this
theorem Eqv.step_none {d d' : Dfa} {s s' t r : Int} (h : Eqv d s d' s') (hr : isC r) (e : stp (d.arc s) r = some t) (e' : stp (d'.arc s') r = none) : ¬ Live d t := fun ⟨w, hw, hn⟩ => by
  have := h (r :: w) (allC_cons.2 ⟨hr, hw⟩)
  rw [run_cons_some e, run_cons_none e'] at this
  exact hn this
section
variable {K : Type} [DecidableEq K]
def numStep (s : List Int × List K) : Option K → List Int × List K
  | none => (s.1 ++ [-1], s.2)
  | some k => match s.2.idxOf? k with
    | some i => (s.1 ++ [(i : Int)], s.2)
    | none => (s.1 ++ [(s.2.length : Int)], s.2 ++ [k])
def numb (keys : List (Option K)) : List Int × List K := keys.foldl numStep ([], [])
structure NumOk (keys : List (Option K)) (s : List Int × List K) : Prop where
  len : s.1.length = keys.length
  nodup : s.2.Nodup
  some_ : ∀ (j : Nat) (k : K), keys[j]? = some (some k) → ∃ i : Nat, s.1[j]? = some (i : Int) ∧ s.2[i]? = some k
  none_ : ∀ j : Nat, keys[j]? = some none → s.1[j]? = some (-1)
  from_ : ∀ k ∈ s.2, some k ∈ keys
  le : s.2.length ≤ keys.length
theorem getElem?_snoc {α : Type} (l : List α) (x : α) (j : Nat) (y : α) : (l ++ [x])[j]? = some y ↔ l[j]? = some y ∨ (j = l.length ∧ x = y) := by
  rcases Nat.lt_trichotomy j l.length with h | h | h
  · rw [List.getElem?_append_left h]
    constructor
    · exact .inl
    · rintro (h' | ⟨h', _⟩)
      · exact h'
      · omega
  · subst h
    simp
  · have : ∀ z, l[j]? ≠ some z := fun z hz => by have := (List.getElem?_eq_some_iff.1 hz).1; omega
    constructor
    · intro h'
      have := (List.getElem?_eq_some_iff.1 h').1
      simp at this
      omega
    · rintro (h' | ⟨h', _⟩)
      · exact absurd h' (this _)
      · omega
theorem idxOf?_some {k : K} : ∀ {l : List K} {i : Nat}, l.idxOf? k = some i → l[i]? = some k
  | [], i, h => by simp at h
  | a :: l, i, h => by
    rw [List.idxOf?_cons] at h
    split at h
    · rename_i he
      injection h with h
      subst h
      simp at he
      simp [he]
    · cases hl : l.idxOf? k with
      | none => rw [hl] at h; cases h
      | some j =>
        rw [hl] at h
        simp at h
        subst h
        simpa using idxOf?_some hl
theorem idxOf?_none {k : K} : ∀ {l : List K}, l.idxOf? k = none → k ∉ l
  | [], _ => by simp
  | a :: l, h => by
    rw [List.idxOf?_cons] at h
    split at h
    · cases h
    · rename_i he
      have h2 : l.idxOf? k = none := by simpa using h
      have := idxOf?_none h2
      simp at he
      simp [this, Ne.symm he]
theorem numOk_step {keys : List (Option K)} {s : List Int × List K} (h : NumOk keys s) (x : Option K) : NumOk (keys ++ [x]) (numStep s x) := by
  cases x with
  | none =>
    refine ⟨by simp [numStep, h.len], h.nodup, fun j k hj => ?_, fun j hj => ?_, fun k hk => List.mem_append_left _ (h.from_ k hk), by have := h.le; simp [numStep]; omega⟩
    · rw [getElem?_snoc] at hj
      rcases hj with hj | ⟨_, hj⟩
      · obtain ⟨i, h1, h2⟩ := h.some_ j k hj
        exact ⟨i, by simp only [numStep]; rw [getElem?_snoc]; exact .inl h1, h2⟩
      · cases hj
    · simp only [numStep]
      rw [getElem?_snoc]
      rw [getElem?_snoc] at hj
      rcases hj with hj | ⟨hj, _⟩
      · exact .inl (h.none_ j hj)
      · exact .inr ⟨by rw [hj, h.len], rfl⟩
  | some k0 =>
    cases hi : s.2.idxOf? k0 with
    | some i0 =>
      have e : numStep s (some k0) = (s.1 ++ [(i0 : Int)], s.2) := by simp [numStep, hi]
      rw [e]
      refine ⟨by simp [h.len], h.nodup, fun j k hj => ?_, fun j hj => ?_, fun k hk => List.mem_append_left _ (h.from_ k hk), by have := h.le; simp; omega⟩
      · rw [getElem?_snoc] at hj
        rcases hj with hj | ⟨hj, hk⟩
        · obtain ⟨i, h1, h2⟩ := h.some_ j k hj
          exact ⟨i, by rw [getElem?_snoc]; exact .inl h1, h2⟩
        · injection hk with hk
          subst hk
          exact ⟨i0, by rw [getElem?_snoc]; exact .inr ⟨by rw [hj, h.len], rfl⟩, idxOf?_some hi⟩
      · rw [getElem?_snoc] at hj ⊢
        rcases hj with hj | ⟨_, hj⟩
        · exact .inl (h.none_ j hj)
        · cases hj
    | none =>
      have e : numStep s (some k0) = (s.1 ++ [(s.2.length : Int)], s.2 ++ [k0]) := by simp [numStep, hi]
      rw [e]
      refine ⟨by simp [h.len], ?_, fun j k hj => ?_, fun j hj => ?_, fun k hk => ?_, by have := h.le; simp; omega⟩
      · rw [List.nodup_append]
        refine ⟨h.nodup, by simp, fun a ha b hb => ?_⟩
        simp at hb
        subst hb
        intro he
        subst he
        exact idxOf?_none hi ha
      · rw [getElem?_snoc] at hj
        rcases hj with hj | ⟨hj, hk⟩
        · obtain ⟨i, h1, h2⟩ := h.some_ j k hj
          exact ⟨i, by rw [getElem?_snoc]; exact .inl h1, by rw [getElem?_snoc]; exact .inl h2⟩
        · injection hk with hk
          subst hk
          exact ⟨s.2.length, by rw [getElem?_snoc]; exact .inr ⟨by rw [hj, h.len], rfl⟩, by rw [getElem?_snoc]; exact .inr ⟨rfl, rfl⟩⟩
      · rw [getElem?_snoc] at hj ⊢
        rcases hj with hj | ⟨_, hj⟩
        · exact .inl (h.none_ j hj)
        · cases hj
      · rcases List.mem_append.1 hk with hk | hk
        · exact List.mem_append_left _ (h.from_ k hk)
        · simp at hk
          subst hk
          simp
theorem numOk_foldl : ∀ (l keys : List (Option K)) (s : List Int × List K), NumOk keys s → NumOk (keys ++ l) (l.foldl numStep s)
  | [], keys, s, h => by simpa using h
  | x :: l, keys, s, h => by
    have := numOk_foldl l (keys ++ [x]) (numStep s x) (numOk_step h x)
    simpa using this
theorem numOk (keys : List (Option K)) : NumOk keys (numb keys) := by
  have := numOk_foldl keys [] ([], []) ⟨rfl, by simp, fun j k h => by simp at h, fun j h => by simp at h, fun k h => by simp at h, by simp⟩
  simpa [numb] using this
theorem num_same {keys : List (Option K)} {j j' : Nat} {k k' : K} (hj : keys[j]? = some (some k)) (hj' : keys[j']? = some (some k')) : (numb keys).1[j]? = (numb keys).1[j']? ↔ k = k' := by
  obtain ⟨i, h1, h2⟩ := (numOk keys).some_ j k hj
  obtain ⟨i', h1', h2'⟩ := (numOk keys).some_ j' k' hj'
  rw [h1, h1']
  constructor
  · intro h
    have : i = i' := by
      have h3 : (i : Int) = (i' : Int) := by simpa using h
      omega
    subst this
    rw [h2] at h2'
    injection h2'
  · rintro rfl
    have hi : i < (numb keys).2.length := (List.getElem?_eq_some_iff.1 h2).1
    have hi' : i' < (numb keys).2.length := (List.getElem?_eq_some_iff.1 h2').1
    have := (List.getElem_inj (h₀ := hi) (h₁ := hi') (numOk keys).nodup).1 (by
      rw [List.getElem?_eq_getElem hi] at h2
      rw [List.getElem?_eq_getElem hi'] at h2'
      injection h2 with h2
      injection h2' with h2'
      rw [h2, h2'])
    rw [this]
end
theorem cover_len : ∀ (m : Nat) (l : List Int), (∀ i : Nat, i < m → (i : Int) ∈ l) → m ≤ l.length
  | 0, _, _ => Nat.zero_le _
  | m + 1, l, h => by
    have hm : (m : Int) ∈ l := h m (by omega)
    have := cover_len m (l.erase (m : Int)) fun i hi => (List.mem_erase_of_ne (by omega)).2 (h i (by omega))
    rw [List.length_erase_of_mem hm] at this
    have : 0 < l.length := List.length_pos_of_mem hm
    omega
theorem cover_nodup : ∀ (m : Nat) (l : List Int), (∀ i : Nat, i < m → (i : Int) ∈ l) → l.length = m → l.Nodup
  | 0, l, _, hl => by
    have : l = [] := List.eq_nil_of_length_eq_zero hl
    simp [this]
  | m + 1, l, h, hl => by
    have hm : (m : Int) ∈ l := h m (by omega)
    have hle : (l.erase (m : Int)).length = m := by rw [List.length_erase_of_mem hm]; omega
    have hc : ∀ i : Nat, i < m → (i : Int) ∈ l.erase (m : Int) := fun i hi => (List.mem_erase_of_ne (by omega)).2 (h i (by omega))
    rw [(List.perm_cons_erase hm).nodup_iff, List.nodup_cons]
    refine ⟨fun hin => ?_, cover_nodup m _ hc hle⟩
    have h2 := cover_len m ((l.erase (m : Int)).erase (m : Int)) fun i hi => (List.mem_erase_of_ne (by omega)).2 (hc i hi)
    rw [List.length_erase_of_mem hin] at h2
    have : 0 < (l.erase (m : Int)).length := List.length_pos_of_mem hin
    omega
end Go.Proofs.YthohahcpdgebbaaDoor.Th
