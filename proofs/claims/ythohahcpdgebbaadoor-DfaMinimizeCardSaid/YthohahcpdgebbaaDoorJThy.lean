/- Proved: what a part of the given program (its deterministic automata, and the functions that they call) computes, and laws on that, under the conditions that each theorem names. -/
import Derived.Test.YthohahcpdgebbaaDoorJTxt
import Derived.Test.YthohahcpdgebbaaDoorJB
import Derived.Test.YthohahcpdgebbaaDoorJT
namespace Go.Proofs.YthohahcpdgebbaaDoor.Th
open Go.Proofs.YthohahcpdgebbaaDoor.Wk (cl txt arcS itS)
def dval (l : List UInt8) : Nat := l.foldl (fun a c => a * 10 + (c.toNat - 48)) 0
theorem dval_dec (u : Nat) : dval (Lib.decDigits u) = u ∧ ∀ c ∈ Lib.decDigits u, 48 ≤ c.toNat ∧ c.toNat ≤ 57 := by
  induction u using Nat.strongRecOn with
  | _ u ih =>
    rw [Lib.decDigits]
    split
    · rename_i h
      have e : (UInt8.ofNat (48 + u)).toNat = 48 + u := by simp; omega
      refine ⟨by simp only [dval, List.foldl_cons, List.foldl_nil, e]; omega, fun c hc => ?_⟩
      rw [List.mem_singleton.1 hc, e]
      omega
    · have hi := ih (u / 10) (by omega)
      have e : (UInt8.ofNat (48 + u % 10)).toNat = 48 + u % 10 := by simp; omega
      refine ⟨?_, fun c hc => ?_⟩
      · have h1 := hi.1
        unfold dval at h1 ⊢
        rw [List.foldl_append, h1]
        simp only [List.foldl_cons, List.foldl_nil, e]
        omega
      · rcases List.mem_append.1 hc with hc | hc
        · exact hi.2 c hc
        · rw [List.mem_singleton.1 hc, e]
          omega
theorem itoa_chars (n : Int) : ∀ c ∈ Lib.itoa n, c.toNat = 45 ∨ (48 ≤ c.toNat ∧ c.toNat ≤ 57) := by
  intro c hc
  unfold Lib.itoa at hc
  split at hc
  · rcases List.mem_cons.1 hc with rfl | hc
    · exact .inl rfl
    · exact .inr ((dval_dec _).2 c hc)
  · exact .inr ((dval_dec _).2 c hc)
theorem itoa_inj {n m : Int} (h : Lib.itoa n = Lib.itoa m) : n = m := by
  have key : ∀ (a : Nat) (b : List UInt8), Lib.decDigits a ≠ 45 :: b := by
    intro a b hab
    have := (dval_dec a).2 45 (by rw [hab]; exact List.mem_cons_self ..)
    have e : (45 : UInt8).toNat = 45 := rfl
    omega
  unfold Lib.itoa at h
  by_cases h1 : n < 0
  · rw [if_pos h1] at h
    by_cases h2 : m < 0
    · rw [if_pos h2] at h
      injection h with _ h
      have := congrArg dval h
      rw [(dval_dec _).1, (dval_dec _).1] at this
      omega
    · rw [if_neg h2] at h
      exact absurd h.symm (key _ _)
  · rw [if_neg h1] at h
    by_cases h2 : m < 0
    · rw [if_pos h2] at h
      exact absurd h (key _ _)
    · rw [if_neg h2] at h
      have := congrArg dval h
      rw [(dval_dec _).1, (dval_dec _).1] at this
      omega
theorem delim {x : UInt8} : ∀ {a b p q : List UInt8}, x ∉ a → x ∉ b → a ++ x :: p = b ++ x :: q → a = b ∧ p = q
  | [], [], p, q, _, _, h => by
    injection h with _ h
    exact ⟨rfl, h⟩
  | [], c :: b, p, q, _, hb, h => by
    injection h with h _
    exact absurd (h ▸ List.mem_cons_self ..) hb
  | c :: a, [], p, q, ha, _, h => by
    injection h with h _
    exact absurd (h ▸ List.mem_cons_self ..) ha
  | c :: a, c' :: b, p, q, ha, hb, h => by
    injection h with h1 h
    obtain ⟨h2, h3⟩ := delim (fun hh => ha (List.mem_cons_of_mem _ hh)) (fun hh => hb (List.mem_cons_of_mem _ hh)) h
    exact ⟨by rw [h1, h2], h3⟩
theorem itoa_no (x : UInt8) (hx : x = 32 ∨ x = 58) (n : Int) : x ∉ Lib.itoa n := by
  intro h
  have := itoa_chars n x h
  rcases hx with rfl | rfl
  · have e : (32 : UInt8).toNat = 32 := rfl
    omega
  · have e : (58 : UInt8).toNat = 58 := rfl
    omega
theorem num_delim {x : UInt8} (hx : x = 32 ∨ x = 58) {n m : Int} {p q : List UInt8} (h : Lib.itoa n ++ x :: p = Lib.itoa m ++ x :: q) : n = m ∧ p = q := by
  obtain ⟨h1, h2⟩ := delim (itoa_no x hx n) (itoa_no x hx m) h
  exact ⟨itoa_inj h1, h2⟩
theorem arcS_ne (a : Arc) (p : List UInt8) : arcS a ++ p ≠ [] := by
  unfold arcS itS
  intro h
  have := congrArg List.length h
  simp at this
theorem txt_inj : ∀ {l l' : List Arc}, txt l = txt l' → l = l'
  | [], [], _ => rfl
  | [], a :: l', h => by
    exact absurd (show arcS a ++ txt l' = [] from by simpa [txt] using h.symm) (arcS_ne _ _)
  | a :: l, [], h => by
    exact absurd (show arcS a ++ txt l = [] from by simpa [txt] using h) (arcS_ne _ _)
  | a :: l, a' :: l', h => by
    have h : arcS a ++ txt l = arcS a' ++ txt l' := by simpa [txt] using h
    unfold arcS itS at h
    simp only [List.append_assoc, List.cons_append, List.nil_append] at h
    obtain ⟨h1, h⟩ := num_delim (.inl rfl) h
    obtain ⟨h2, h⟩ := num_delim (.inl rfl) h
    obtain ⟨h3, h⟩ := num_delim (.inl rfl) h
    rw [txt_inj h]
    obtain ⟨lo, hi, t⟩ := a
    obtain ⟨lo', hi', t'⟩ := a'
    simp only at h1 h2 h3
    subst h1; subst h2; subst h3
    rfl
def mapA (f : Int → Int) (a : Arc) : Arc := ⟨a.lo, a.hi, f a.to⟩
theorem grpR_map (f : Int → Int) (hf : ∀ x y, f x = f y → x = y) (h1 : f (-1) = -1) (cls : Int → Int) : ∀ (l : List Arc) (c : Option Arc), grpR (fun t => f (cls t)) (c.map (mapA f)) l = (grpR cls c l).map (mapA f)
  | [], none => rfl
  | [], some c => rfl
  | a :: l, none => by
    simp only [grpR, Option.map_none]
    by_cases k : cls a.to = -1
    · rw [if_pos k, if_pos (by rw [k, h1])]
      exact grpR_map f hf h1 cls l none
    · rw [if_neg k, if_neg (fun hh => k (hf _ _ (by rw [hh, h1])))]
      exact grpR_map f hf h1 cls l (some ⟨a.lo, a.hi, cls a.to⟩)
  | a :: l, some c => by
    simp only [grpR, Option.map_some]
    by_cases k : cls a.to = -1
    · rw [if_pos k, if_pos (by rw [k, h1])]
      exact grpR_map f hf h1 cls l (some c)
    · rw [if_neg k, if_neg (fun hh => k (hf _ _ (by rw [hh, h1])))]
      by_cases k2 : c.to = cls a.to ∧ nx c.hi = a.lo
      · rw [if_pos k2, if_pos (show (mapA f c).to = f (cls a.to) ∧ nx (mapA f c).hi = a.lo from ⟨congrArg f k2.1, k2.2⟩)]
        exact grpR_map f hf h1 cls l (some ⟨c.lo, a.hi, c.to⟩)
      · rw [if_neg k2, if_neg (show ¬ ((mapA f c).to = f (cls a.to) ∧ nx (mapA f c).hi = a.lo) from fun hh => k2 ⟨hf _ _ hh.1, hh.2⟩)]
        rw [List.map_cons]
        exact congrArg (mapA f c :: ·) (grpR_map f hf h1 cls l (some ⟨a.lo, a.hi, cls a.to⟩))
def pack (x : Int) : Int := if x = -1 then -1 else if x < 0 then 2 * (-x) else 2 * x + 1
theorem pack_inj (x y : Int) (h : pack x = pack y) : x = y := by
  unfold pack at h
  split at h <;> split at h <;> (try split at h) <;> (try split at h) <;> omega
theorem pack_ok (x : Int) : pack x = -1 ∨ 0 ≤ pack x := by
  unfold pack
  split
  · exact .inl rfl
  · split <;> (right; omega)
theorem map_inj {f : Int → Int} (hf : ∀ x y, f x = f y → x = y) : ∀ {l l' : List Arc}, l.map (mapA f) = l'.map (mapA f) → l = l'
  | [], [], _ => rfl
  | [], _ :: _, h => by cases h
  | _ :: _, [], h => by cases h
  | a :: l, a' :: l', h => by
    injection h with h1 h2
    rw [map_inj hf h2]
    obtain ⟨lo, hi, t⟩ := a
    obtain ⟨lo', hi', t'⟩ := a'
    unfold mapA at h1
    injection h1 with h3 h4 h5
    simp only at h3 h4 h5
    rw [h3, h4, hf _ _ h5]
theorem via_pack (cls : Int → Int) (t : Int) : via (fun t => pack (cls t)) t = (via cls t).map pack := by
  unfold via
  by_cases k : cls t = -1
  · rw [if_pos k, if_pos (show pack (cls t) = -1 by rw [k]; rfl)]
    rfl
  · rw [if_neg k, if_neg (show ¬ pack (cls t) = -1 from fun hh => k (pack_inj _ _ hh))]
    rfl
theorem grp_eq' {n n' b b' : Int} (cls cls' : Int → Int) {l l' : List Arc} (h : okA n b l) (h' : okA n' b' l')
    (he : ∀ r, isC r → (stp l r).bind (via cls) = (stp l' r).bind (via cls')) : grp cls l = grp cls' l' := by
  have e1 := grpR_map pack pack_inj rfl cls l none
  have e2 := grpR_map pack pack_inj rfl cls' l' none
  refine map_inj pack_inj ?_
  unfold grp
  rw [← e1, ← e2]
  refine grp_eq (fun t => pack (cls t)) (fun t => pack (cls' t)) h h' (fun t _ _ => pack_ok _) (fun t _ _ => pack_ok _) (fun r hr => ?_)
  have := he r hr
  cases h1 : stp l r with
  | none =>
    cases h2 : stp l' r with
    | none => rfl
    | some t' =>
      rw [h1, h2] at this
      simp only [Option.bind_none, Option.bind_some] at this ⊢
      rw [via_pack, ← this]
      rfl
  | some t =>
    cases h2 : stp l' r with
    | none =>
      rw [h1, h2] at this
      simp only [Option.bind_none, Option.bind_some] at this ⊢
      rw [via_pack, this]
      rfl
    | some t' =>
      rw [h1, h2] at this
      simp only [Option.bind_some] at this ⊢
      rw [via_pack, via_pack, this]
end Go.Proofs.YthohahcpdgebbaaDoor.Th
namespace Go.Proofs.YthohahcpdgebbaaDoor.Th
open Go.Proofs.YthohahcpdgebbaaDoor.Wk (cl txt arcS itS)
def keyOfS (d : Dfa) (out : List Int) (s : Nat) : List UInt8 := Lib.itoa (out.getD s (-1)) ++ 58 :: txt (grp (cl out) (d.arc s))
def keysB (d : Dfa) (bs : List Bool) (out : List Int) : List (Option (List UInt8)) := (List.range d.n).map fun s => if bs.getD s false then some (keyOfS d out s) else none
def BsOk (d : Dfa) (bs : List Bool) : Prop := bs.length = d.n ∧ ∀ s : Nat, s < d.n → (bs.getD s false = true ↔ Live d s)
theorem cl_nat (out : List Int) (s : Nat) : cl out (s : Int) = out.getD s (-1) := by unfold cl; rw [Int.toNat_natCast]
structure CInv (d : Dfa) (out : List Int) (many : Nat) : Prop where
  len : out.length = d.n
  i64 : ∀ x ∈ out, -9223372036854775808 ≤ x ∧ x ≤ 9223372036854775807
  dead : ∀ s : Nat, s < d.n → ¬ Live d s → cl out s = -1
  live : ∀ s : Nat, s < d.n → Live d s → cl out s ≠ -1
  eqv : ∀ s t : Nat, s < d.n → t < d.n → Live d s → Live d t → Eqv d s d t → cl out s = cl out t
  lab : ∀ s t : Nat, s < d.n → t < d.n → Live d s → Live d t → cl out s = cl out t → d.lab s = d.lab t
  cov : ∀ i : Nat, i < many → ∃ s : Nat, s < d.n ∧ Live d s ∧ cl out s = i
structure CRes (d : Dfa) (R : List Int) : Prop where
  len : R.length = d.n
  dead : ∀ s : Nat, s < d.n → ¬ Live d s → cl R s = -1
  live : ∀ s : Nat, s < d.n → Live d s → 0 ≤ cl R s ∧ cl R s < d.n
  same : ∀ s t : Nat, s < d.n → t < d.n → Live d s → Live d t → (cl R s = cl R t ↔ Eqv d s d t)
theorem keyOfS_inj {d : Dfa} {out : List Int} {s t : Nat} : keyOfS d out s = keyOfS d out t ↔ cl out s = cl out t ∧ grp (cl out) (d.arc s) = grp (cl out) (d.arc t) := by
  rw [cl_nat, cl_nat]
  constructor
  · intro h
    obtain ⟨h1, h2⟩ := num_delim (.inr rfl) h
    exact ⟨h1, txt_inj h2⟩
  · rintro ⟨h1, h2⟩
    unfold keyOfS
    rw [h1, h2]
theorem stp_in {d : Dfa} (hd : Ok d) {s : Nat} {r t : Int} (h : stp (d.arc s) r = some t) : ∃ m : Nat, t = m ∧ m < d.n := by
  obtain ⟨h0, h1, _⟩ := stp_range (hd.arc_ok s) h
  obtain ⟨m, rfl⟩ := Int.eq_ofNat_of_zero_le h0
  exact ⟨m, rfl, by omega⟩
theorem via_dead {d : Dfa} {out : List Int} {many : Nat} (h : CInv d out many) {m : Nat} (hm : m < d.n) (hl : ¬ Live d m) : via (cl out) m = none := by
  unfold via
  rw [if_pos (h.dead m hm hl)]
theorem via_live {d : Dfa} {out : List Int} {many : Nat} (h : CInv d out many) {m : Nat} (hm : m < d.n) (hl : Live d m) : via (cl out) m = some (cl out m) := by
  unfold via
  rw [if_neg (h.live m hm hl)]
theorem grp_of_eqv {d : Dfa} (hd : Ok d) {out : List Int} {many : Nat} (h : CInv d out many) {s t : Nat} (he : Eqv d s d t) : grp (cl out) (d.arc s) = grp (cl out) (d.arc t) := by
  refine grp_eq' (cl out) (cl out) (hd.arc_ok s) (hd.arc_ok t) (fun r hr => ?_)
  cases h1 : stp (d.arc s) r with
  | none =>
    cases h2 : stp (d.arc t) r with
    | none => rfl
    | some b =>
      obtain ⟨m, rfl, hm⟩ := stp_in hd h2
      have := he.symm.step_none hr h2 h1
      rw [Option.bind_none, Option.bind_some, via_dead h hm this]
  | some a =>
    obtain ⟨m, rfl, hm⟩ := stp_in hd h1
    cases h2 : stp (d.arc t) r with
    | none =>
      have := he.step_none hr h1 h2
      rw [Option.bind_none, Option.bind_some, via_dead h hm this]
    | some b =>
      obtain ⟨m', rfl, hm'⟩ := stp_in hd h2
      have he2 := he.step hr h1 h2
      rw [Option.bind_some, Option.bind_some]
      by_cases hl : Live d m
      · rw [via_live h hm hl, via_live h hm' (he2.live hl), h.eqv m m' hm hm' hl (he2.live hl) he2]
      · rw [via_dead h hm hl, via_dead h hm' (fun hh => hl (he2.symm.live hh))]
section
variable {d : Dfa} {bs : List Bool} {out : List Int} {many : Nat}
theorem keysB_at {s : Nat} (hs : s < d.n) : (keysB d bs out)[s]? = some (if bs.getD s false then some (keyOfS d out s) else none) := by
  unfold keysB
  rw [List.getElem?_map, List.getElem?_range hs]
  rfl
theorem keysB_live (hb : BsOk d bs) {s : Nat} (hs : s < d.n) (hl : Live d s) : (keysB d bs out)[s]? = some (some (keyOfS d out s)) := by
  rw [keysB_at hs, if_pos ((hb.2 s hs).2 hl)]
theorem keysB_dead (hb : BsOk d bs) {s : Nat} (hs : s < d.n) (hl : ¬ Live d s) : (keysB d bs out)[s]? = some none := by
  rw [keysB_at hs, if_neg (fun hh => hl ((hb.2 s hs).1 hh))]
theorem keysB_len : (keysB d bs out).length = d.n := by simp [keysB]
theorem rnd_cl (s : Nat) (x : Int) (h : (numb (keysB d bs out)).1[s]? = some x) : cl (numb (keysB d bs out)).1 s = x := by
  rw [cl_nat, List.getD_eq_getElem?_getD, h]; rfl
theorem rnd_num (hb : BsOk d bs) {s : Nat} (hs : s < d.n) (hl : Live d s) : ∃ i : Nat, cl (numb (keysB d bs out)).1 s = i ∧ (numb (keysB d bs out)).2[i]? = some (keyOfS d out s) ∧ i < d.n := by
  obtain ⟨i, h1, h2⟩ := (numOk (keysB d bs out)).some_ s _ (keysB_live hb hs hl)
  have := (numOk (keysB d bs out)).le
  rw [keysB_len] at this
  have h3 := (List.getElem?_eq_some_iff.1 h2).1
  exact ⟨i, rnd_cl s _ h1, h2, by omega⟩
theorem rnd_same (hb : BsOk d bs) {s t : Nat} (hs : s < d.n) (ht : t < d.n) (hl : Live d s) (hl' : Live d t) : cl (numb (keysB d bs out)).1 s = cl (numb (keysB d bs out)).1 t ↔ keyOfS d out s = keyOfS d out t := by
  rw [← num_same (keysB_live hb hs hl) (keysB_live hb ht hl')]
  obtain ⟨i, h1, _⟩ := (numOk (keysB d bs out)).some_ s _ (keysB_live hb hs hl)
  obtain ⟨i', h1', _⟩ := (numOk (keysB d bs out)).some_ t _ (keysB_live hb ht hl')
  rw [rnd_cl s _ h1, rnd_cl t _ h1', h1, h1']
  simp
theorem rnd_inv (hd : Ok d) (hb : BsOk d bs) (h : CInv d out many) : CInv d (numb (keysB d bs out)).1 (numb (keysB d bs out)).2.length := by
  have hN := numOk (keysB d bs out)
  refine ⟨by rw [hN.len, keysB_len], fun x hx => ?_, fun s hs hl => rnd_cl s _ (hN.none_ s (keysB_dead hb hs hl)), fun s hs hl => ?_, fun s t hs ht hl hl' he => ?_, fun s t hs ht hl hl' he => ?_, fun i hi => ?_⟩
  · obtain ⟨s, hs, hx⟩ := List.getElem_of_mem hx
    have hsn : s < d.n := by rw [hN.len, keysB_len] at hs; exact hs
    have hlim := hd.lim
    by_cases hl : Live d s
    · obtain ⟨i, h1, _, h3⟩ := rnd_num (out := out) hb hsn hl
      rw [rnd_cl s x (by rw [List.getElem?_eq_getElem hs, hx])] at h1
      omega
    · have := rnd_cl s _ (hN.none_ s (keysB_dead hb hsn hl))
      rw [rnd_cl s x (by rw [List.getElem?_eq_getElem hs, hx])] at this
      omega
  · obtain ⟨i, h1, _⟩ := rnd_num (out := out) hb hs hl
    rw [h1]
    omega
  · exact (rnd_same hb hs ht hl hl').2 (keyOfS_inj.2 ⟨h.eqv s t hs ht hl hl' he, grp_of_eqv hd h he⟩)
  · exact h.lab s t hs ht hl hl' (keyOfS_inj.1 ((rnd_same hb hs ht hl hl').1 he)).1
  · have hk := hN.from_ _ (List.getElem_mem hi)
    obtain ⟨s, hs, hx⟩ := List.getElem_of_mem hk
    rw [keysB_len] at hs
    have hxs : (keysB d bs out)[s]? = some (some (numb (keysB d bs out)).2[i]) := by rw [List.getElem?_eq_getElem (by rw [keysB_len]; exact hs), hx]
    by_cases hl : Live d s
    · refine ⟨s, hs, hl, ?_⟩
      obtain ⟨i', h1, h2⟩ := hN.some_ s _ hxs
      have h3 := (List.getElem?_eq_some_iff.1 h2)
      obtain ⟨h4, h5⟩ := h3
      have := (List.getElem_inj (h₀ := h4) (h₁ := hi) hN.nodup).1 h5
      rw [rnd_cl s _ h1, this]
    · rw [keysB_dead hb hs hl] at hxs
      cases hxs
open Classical in
noncomputable def clOfKey (d : Dfa) (out : List Int) (key : List UInt8) : Int := if h : ∃ s : Nat, s < d.n ∧ Live d s ∧ keyOfS d out s = key then cl out (Classical.choose h : Nat) else -1
theorem clOfKey_at {s : Nat} (hs : s < d.n) (hl : Live d s) : clOfKey d out (keyOfS d out s) = cl out s := by
  have hex : ∃ s' : Nat, s' < d.n ∧ Live d s' ∧ keyOfS d out s' = keyOfS d out s := ⟨s, hs, hl, rfl⟩
  unfold clOfKey
  rw [dif_pos hex]
  exact (keyOfS_inj.1 (Classical.choose_spec hex).2.2).1
theorem rnd_count (hb : BsOk d bs) (h : CInv d out many) : many ≤ (numb (keysB d bs out)).2.length ∧
    ((numb (keysB d bs out)).2.length = many → ∀ s t : Nat, s < d.n → t < d.n → Live d s → Live d t → cl out s = cl out t → cl (numb (keysB d bs out)).1 s = cl (numb (keysB d bs out)).1 t) := by
  have hcov : ∀ i : Nat, i < many → (i : Int) ∈ (numb (keysB d bs out)).2.map (clOfKey d out) := by
    intro i hi
    obtain ⟨s, hs, hl, hc⟩ := h.cov i hi
    obtain ⟨j, _, h2, _⟩ := rnd_num (out := out) hb hs hl
    refine List.mem_map.2 ⟨_, List.mem_of_getElem? h2, ?_⟩
    rw [clOfKey_at hs hl, hc]
  have hl := cover_len many _ hcov
  rw [List.length_map] at hl
  refine ⟨hl, fun he s t hs ht hls hlt hc => ?_⟩
  have hnd := cover_nodup many _ hcov (by rw [List.length_map]; exact he)
  obtain ⟨i, _, hi, _⟩ := rnd_num (out := out) hb hs hls
  obtain ⟨j, _, hj, _⟩ := rnd_num (out := out) hb ht hlt
  obtain ⟨hi1, hi2⟩ := List.getElem?_eq_some_iff.1 hi
  obtain ⟨hj1, hj2⟩ := List.getElem?_eq_some_iff.1 hj
  have hij : i = j := (List.getElem_inj (h₀ := by rw [List.length_map]; exact hi1) (h₁ := by rw [List.length_map]; exact hj1) hnd).1 (by
    rw [List.getElem_map, List.getElem_map, hi2, hj2, clOfKey_at hs hls, clOfKey_at ht hlt, hc])
  subst hij
  rw [hi2] at hj2
  exact (rnd_same hb hs ht hls hlt).2 hj2
theorem rnd_done (hd : Ok d) (hb : BsOk d bs) (h : CInv d out many) (he : (numb (keysB d bs out)).2.length = many) : CRes d (numb (keysB d bs out)).1 := by
  have hR := rnd_inv hd hb h
  have hst := (rnd_count hb h).2 he
  refine ⟨hR.len, hR.dead, fun s hs hl => ?_, fun s t hs ht hl hl' => ⟨fun hc w => ?_, fun he => hR.eqv s t hs ht hl hl' he⟩⟩
  · obtain ⟨i, h1, _, h3⟩ := rnd_num (out := out) hb hs hl
    rw [h1]
    omega
  · induction w generalizing s t with
    | nil => exact fun _ => hR.lab s t hs ht hl hl' hc
    | cons r w ih =>
      intro hw
      obtain ⟨hr, hw2⟩ := allC_cons.1 hw
      have hg := (keyOfS_inj.1 ((rnd_same hb hs ht hl hl').1 hc)).2
      have hg2 := congrArg (fun l => stp l r) hg
      simp only [grp_stp (cl out) hr (hd.arc_ok _)] at hg2
      cases h1 : stp (d.arc s) r with
      | none =>
        rw [run_cons_none h1]
        cases h2 : stp (d.arc t) r with
        | none => rw [run_cons_none h2]
        | some b =>
          obtain ⟨m, rfl, hm⟩ := stp_in hd h2
          rw [run_cons_some h2]
          rw [h1, h2, Option.bind_none, Option.bind_some] at hg2
          by_cases hlm : Live d m
          · rw [via_live h hm hlm] at hg2; cases hg2
          · rw [dead hlm hw2]
      | some a =>
        obtain ⟨m, rfl, hm⟩ := stp_in hd h1
        rw [run_cons_some h1]
        cases h2 : stp (d.arc t) r with
        | none =>
          rw [run_cons_none h2]
          rw [h1, h2, Option.bind_none, Option.bind_some] at hg2
          by_cases hlm : Live d m
          · rw [via_live h hm hlm] at hg2; cases hg2
          · rw [dead hlm hw2]
        | some b =>
          obtain ⟨m', rfl, hm'⟩ := stp_in hd h2
          rw [run_cons_some h2]
          rw [h1, h2, Option.bind_some, Option.bind_some] at hg2
          by_cases hlm : Live d m
          · by_cases hlm' : Live d m'
            · rw [via_live h hm hlm, via_live h hm' hlm'] at hg2
              injection hg2 with hg2
              exact ih m m' hm hm' hlm hlm' (hst m m' hm hm' hlm hlm' hg2) hw2
            · rw [via_live h hm hlm, via_dead h hm' hlm'] at hg2; cases hg2
          · by_cases hlm' : Live d m'
            · rw [via_dead h hm hlm, via_live h hm' hlm'] at hg2; cases hg2
            · rw [dead hlm hw2, dead hlm' hw2]
end
theorem numb_take {K : Type} [DecidableEq K] {l : List (Option K)} {k : Nat} {x : Option K} (h : l[k]? = some x) : numb (l.take (k + 1)) = numStep (numb (l.take k)) x := by
  obtain ⟨hk, hx⟩ := List.getElem?_eq_some_iff.1 h
  unfold numb
  rw [List.take_succ_eq_append_getElem hk, List.foldl_append, hx]
  rfl
theorem numb_len {K : Type} [DecidableEq K] {l : List (Option K)} {k : Nat} (hk : k ≤ l.length) : (numb (l.take k)).1.length = k := by
  rw [(numOk (l.take k)).len, List.length_take]
  omega
theorem idx_snoc {K : Type} [DecidableEq K] {key : K} : ∀ {l : List K}, l.idxOf? key = none → ∀ k' : K, (l ++ [key]).idxOf? k' = if k' = key then some l.length else l.idxOf? k'
  | [], _, k' => by
    rw [List.nil_append, List.idxOf?_cons]
    by_cases e : k' = key
    · subst e
      simp
    · have : (key == k') = false := by simp [Ne.symm e]
      simp [this, e]
  | a :: l, h, k' => by
    rw [List.idxOf?_cons] at h
    split at h
    · cases h
    · rename_i hne
      have h2 : l.idxOf? key = none := by simpa using h
      rw [List.cons_append, List.idxOf?_cons, List.idxOf?_cons, idx_snoc h2 k']
      by_cases e : k' = key
      · subst e
        simp only [hne]
        simp
      · simp [e]
def ix {K : Type} [DecidableEq K] (l : List K) (k : K) : Option Nat := l.idxOf? k
def nfun {K : Type} [DecidableEq K] (l : List K) (k : K) : Option Int := (ix l k).map Int.ofNat
theorem nfun_nil {K : Type} [DecidableEq K] : nfun ([] : List K) = fun _ => none := rfl
theorem nfun_hit {K : Type} [DecidableEq K] {l : List K} {k : K} {i : Nat} (h : ix l k = some i) : nfun l k = some (i : Int) := by unfold nfun; rw [h]; rfl
theorem nfun_miss {K : Type} [DecidableEq K] {l : List K} {k : K} (h : ix l k = none) : nfun l k = none := by unfold nfun; rw [h]; rfl
theorem nfun_snoc {K : Type} [DecidableEq K] {key : K} {l : List K} (h : ix l key = none) : (fun k' => if k' = key then some (l.length : Int) else nfun l k') = nfun (l ++ [key]) := by
  funext k'
  unfold nfun ix
  rw [idx_snoc h]
  split <;> rfl
theorem numStep_hit {K : Type} [DecidableEq K] {s : List Int × List K} {k : K} {i : Nat} (h : ix s.2 k = some i) : numStep s (some k) = (s.1 ++ [(i : Int)], s.2) := by
  unfold ix at h
  simp only [numStep, h]
theorem numStep_miss {K : Type} [DecidableEq K] {s : List Int × List K} {k : K} (h : ix s.2 k = none) : numStep s (some k) = (s.1 ++ [(s.2.length : Int)], s.2 ++ [k]) := by
  unfold ix at h
  simp only [numStep, h]
theorem fill2 {α : Type} (a : List α) (n k : Nat) (z x : α) (ha : a.length = k) (hk : k < n) : (a ++ List.replicate (n - k) z).set k x = (a ++ [x]) ++ List.replicate (n - (k + 1)) z := by
  rw [List.set_append_right _ _ (by omega), ha, Nat.sub_self, show n - k = (n - (k + 1)) + 1 by omega, List.replicate_succ, List.set_cons_zero, List.append_assoc]
  rfl
theorem grpR_okT {cls : Int → Int} (hc : ∀ t, -9223372036854775808 ≤ cls t ∧ cls t ≤ 9223372036854775807) : ∀ (l : List Arc) (c : Option Arc), (∀ a ∈ l, 0 ≤ a.lo ∧ a.lo ≤ 1114111 ∧ 0 ≤ a.hi ∧ a.hi ≤ 1114111) →
    (∀ a, c = some a → 0 ≤ a.lo ∧ a.lo ≤ 1114111 ∧ 0 ≤ a.hi ∧ a.hi ≤ 1114111 ∧ -9223372036854775808 ≤ a.to ∧ a.to ≤ 9223372036854775807) → Wk.OkT (grpR cls c l)
  | [], none, _, _ => fun a ha => by cases ha
  | [], some c, _, hh => fun a ha => by
    rw [List.mem_singleton.1 ha]
    exact hh c rfl
  | x :: l, none, hl, hh => by
    obtain ⟨h1, h2, h3, h4⟩ := hl x (List.mem_cons_self ..)
    have ht := hc x.to
    simp only [grpR]
    split
    · exact grpR_okT hc l none (fun a ha => hl a (List.mem_cons_of_mem _ ha)) (fun a ha => by cases ha)
    · exact grpR_okT hc l _ (fun a ha => hl a (List.mem_cons_of_mem _ ha)) (fun a ha => by injection ha with ha; subst ha; exact ⟨h1, h2, h3, h4, ht.1, ht.2⟩)
  | x :: l, some c, hl, hh => by
    obtain ⟨h1, h2, h3, h4⟩ := hl x (List.mem_cons_self ..)
    obtain ⟨g1, g2, g3, g4, g5, g6⟩ := hh c rfl
    have ht := hc x.to
    simp only [grpR]
    split
    · exact grpR_okT hc l _ (fun a ha => hl a (List.mem_cons_of_mem _ ha)) hh
    · split
      · exact grpR_okT hc l _ (fun a ha => hl a (List.mem_cons_of_mem _ ha)) (fun a ha => by injection ha with ha; subst ha; exact ⟨g1, g2, h3, h4, g5, g6⟩)
      · intro a ha
        rcases List.mem_cons.1 ha with rfl | ha
        · exact ⟨g1, g2, g3, g4, g5, g6⟩
        · exact grpR_okT hc l _ (fun a ha => hl a (List.mem_cons_of_mem _ ha)) (fun a ha => by injection ha with ha; subst ha; exact ⟨h1, h2, h3, h4, ht.1, ht.2⟩) a ha
theorem okA_bounds {n : Int} : ∀ {l : List Arc} {b : Int}, okA n b l → ∀ a ∈ l, 0 ≤ a.lo ∧ a.lo ≤ 1114111 ∧ 0 ≤ a.hi ∧ a.hi ≤ 1114111 ∧ 0 ≤ a.to ∧ a.to < n
  | [], _, _, a, ha => by cases ha
  | x :: l, b, ⟨h1, h2, h3, h4, h5, h6, h7⟩, a, ha => by
    rcases List.mem_cons.1 ha with rfl | ha
    · unfold isC at h2 h3
      omega
    · exact okA_bounds h7 a ha
theorem cl_i64 {d : Dfa} {out : List Int} {many : Nat} (h : CInv d out many) (t : Int) : -9223372036854775808 ≤ cl out t ∧ cl out t ≤ 9223372036854775807 := by
  unfold cl
  rw [List.getD_eq_getElem?_getD]
  cases e : out[t.toNat]? with
  | none => simp
  | some x => exact h.i64 x (List.mem_of_getElem? e)
theorem grp_okT {d : Dfa} (hd : Ok d) {out : List Int} {many : Nat} (h : CInv d out many) (k : Nat) : Wk.OkT (grp (cl out) (d.arc k)) :=
  grpR_okT (cl_i64 h) _ none (fun a ha => by have := okA_bounds (hd.arc_ok k) a ha; omega) (fun a ha => by cases ha)
theorem grp_len (cls : Int → Int) (l : List Arc) : (grp cls l).length ≤ l.length := by
  have := foldl_grpStep_len cls l []
  rw [foldl_grpStep] at this
  simpa using this
theorem keyOfS_len {d : Dfa} (hd : Ok d) {out : List Int} {many : Nat} (h : CInv d out many) (k : Nat) (hl : (d.arc k).length ≤ 4294967296) : (keyOfS d out k).length ≤ 1000000000000 := by
  have h1 := Wk.txt_len _ (grp_okT hd h k)
  have h2 := grp_len (cl out) (d.arc k)
  have h3 := cl_i64 h (k : Int)
  have h4 := Wk.itoa_len (cl out k) h3.1 h3.2
  rw [cl_nat] at h4
  unfold keyOfS
  simp only [List.length_append, List.length_cons]
  omega
def bump (y : Int) : Int := if y = 9223372036854775807 then -9223372036854775808 else y + 1
theorem bump_inj {x y : Int} (hx : -1 ≤ x) (hy : -1 ≤ y) (hx2 : x ≤ 9223372036854775807) (hy2 : y ≤ 9223372036854775807) (h : bump x = bump y) : x = y := by
  unfold bump at h
  split at h <;> split at h <;> omega
def startC (d : Dfa) (bs : List Bool) : List Int := (List.range d.n).map fun s => if bs.getD s false then bump (d.lab s) else -1
theorem startC_len (d : Dfa) (bs : List Bool) : (startC d bs).length = d.n := by simp [startC]
theorem startC_at {d : Dfa} {bs : List Bool} {s : Nat} (hs : s < d.n) : (startC d bs).getD s (-1) = if bs.getD s false then bump (d.lab s) else -1 := by
  unfold startC
  rw [List.getD_eq_getElem?_getD, List.getElem?_map, List.getElem?_range hs]
  rfl
theorem startC_inv {d : Dfa} {bs : List Bool} (hd : Ok d) (hb : BsOk d bs) (hlab : ∀ x ∈ d.labels, x ≤ 9223372036854775807) : CInv d (startC d bs) 0 := by
  have hl2 : ∀ s : Int, d.lab s ≤ 9223372036854775807 := by
    intro s
    unfold Dfa.lab
    rw [List.getD_eq_getElem?_getD]
    cases hs : d.labels[s.toNat]? with
    | none => simp
    | some l => exact hlab l (List.mem_of_getElem? hs)
  have hlv : ∀ s : Nat, s < d.n → Live d s → cl (startC d bs) s = bump (d.lab s) := by
    intro s hs hl
    rw [cl_nat, startC_at hs, if_pos ((hb.2 s hs).2 hl)]
  refine ⟨startC_len d bs, fun x hx => ?_, fun s hs hl => ?_, fun s hs hl => ?_, fun s t hs ht hl hl' he => ?_, fun s t hs ht hl hl' he => ?_, fun i hi => by omega⟩
  · unfold startC at hx
    obtain ⟨s, _, rfl⟩ := List.mem_map.1 hx
    have h1 := hl2 (s : Int)
    have h2 := hd.lab_ge (s : Int)
    split
    · unfold bump
      split <;> omega
    · omega
  · rw [cl_nat, startC_at hs, if_neg (fun hh => hl ((hb.2 s hs).1 hh))]
  · rw [hlv s hs hl]
    have h2 := hd.lab_ge (s : Int)
    unfold bump
    split <;> omega
  · rw [hlv s hs hl, hlv t ht hl']
    have := he [] allC_nil
    simp only [run] at this
    rw [this]
  · rw [hlv s hs hl, hlv t ht hl'] at he
    exact bump_inj (hd.lab_ge _) (hd.lab_ge _) (hl2 _) (hl2 _) he
end Go.Proofs.YthohahcpdgebbaaDoor.Th
namespace Go.Proofs.YthohahcpdgebbaaDoor.Th
open Go.Proofs.YthohahcpdgebbaaDoor.Wk (cl)
theorem ix_some {K : Type} [DecidableEq K] {l : List K} {k : K} {i : Nat} (h : ix l k = some i) : l[i]? = some k := idxOf?_some h
theorem ix_none {K : Type} [DecidableEq K] {l : List K} {k : K} (h : ix l k = none) : k ∉ l := idxOf?_none h
theorem nfun_keep {K : Type} [DecidableEq K] : ∀ {l : List K} {c : K} {i : Nat}, ix l c = some i → nfun (l ++ [c]) = nfun l
  | [], c, i, h => by cases h
  | a :: l, c, i, h => by
    funext k
    unfold ix at h
    unfold nfun ix
    rw [List.cons_append, List.idxOf?_cons, List.idxOf?_cons]
    by_cases e : a == k
    · simp [e]
    · simp only [e]
      by_cases e2 : a == c
      · have hc : c = a := by simpa using (beq_iff_eq.1 e2).symm
        subst hc
        have hk : k ≠ c := fun hh => e (by simp [hh])
        have : ∀ l : List K, (l ++ [c]).idxOf? k = l.idxOf? k := by
          intro l
          induction l with
          | nil => rw [List.nil_append, List.idxOf?_cons]; simp [Ne.symm hk]
          | cons b l ih => rw [List.cons_append, List.idxOf?_cons, List.idxOf?_cons, ih]
        rw [this]
      · rw [List.idxOf?_cons] at h
        simp only [e2] at h
        cases hl : l.idxOf? c with
        | none => rw [hl] at h; simp at h
        | some j =>
          have := congrFun (nfun_keep (l := l) (c := c) (i := j) hl) k
          unfold nfun ix at this
          cases h1 : (l ++ [c]).idxOf? k <;> cases h2 : l.idxOf? k <;> rw [h1, h2] at this <;> simp at this ⊢ <;> omega
def rstep (s : List Arc × List Int) (a : Arc) : List Arc × List Int :=
  match ix s.2 a.to with
  | some i => (s.1 ++ [⟨a.lo, a.hi, (i : Int)⟩], s.2)
  | none => (s.1 ++ [⟨a.lo, a.hi, (s.2.length : Int)⟩], s.2 ++ [a.to])
def scanL : List Arc → Nat → Option Nat
  | [], c => some c
  | a :: l, c => if a.to < (c : Int) then scanL l c else if a.to = (c : Int) then scanL l (c + 1) else none
theorem scanL_snoc : ∀ {l : List Arc} {c e : Nat} (a : Arc), scanL l c = some e → scanL (l ++ [a]) c = if a.to < (e : Int) then some e else if a.to = (e : Int) then some (e + 1) else none
  | [], c, e, a, h => by
    injection h with h
    subst h
    simp only [List.nil_append, scanL]
  | x :: l, c, e, a, h => by
    simp only [scanL] at h
    simp only [List.cons_append, scanL]
    split at h
    · rename_i h1
      rw [if_pos h1]
      exact scanL_snoc a h
    · split at h
      · rename_i h1 h2
        rw [if_neg h1, if_pos h2]
        exact scanL_snoc a h
      · cases h
def scanAll : List (List Arc) → Nat → Nat → Option Nat
  | [], _, c => some c
  | l :: ls, i, c => if i < c then (scanL l c).bind (scanAll ls (i + 1)) else none
theorem scanAll_snoc : ∀ {ls : List (List Arc)} {i c e : Nat} (l : List Arc), scanAll ls i c = some e → scanAll (ls ++ [l]) i c = if i + ls.length < e then scanL l e else none
  | [], i, c, e, l, h => by
    injection h with h
    subst h
    simp only [List.nil_append, scanAll, List.length_nil, Nat.add_zero]
    split
    · cases scanL l c <;> rfl
    · rfl
  | x :: ls, i, c, e, l, h => by
    simp only [scanAll] at h
    simp only [List.cons_append, scanAll, List.length_cons]
    split at h
    · rename_i h1
      rw [if_pos h1]
      cases hx : scanL x c with
      | none => rw [hx] at h; cases h
      | some e1 =>
        rw [hx] at h
        simp only [Option.bind_some] at h ⊢
        rw [scanAll_snoc l h, show i + 1 + ls.length = i + (ls.length + 1) by omega]
    · cases h
structure OInv (d : Dfa) (R : List Int) (order : List Int) : Prop where
  nodup : order.Nodup
  head : order[0]? = some (cl R d.start)
  from_ : ∀ c ∈ order, ∃ s : Nat, s < d.n ∧ Live d s ∧ cl R s = c
structure RInv (g done : List Arc) (order : List Int) : Prop where
  len : done.length = g.length
  at_ : ∀ (j : Nat) (a : Arc), g[j]? = some a → ∃ k : Nat, done[j]? = some ⟨a.lo, a.hi, (k : Int)⟩ ∧ order[k]? = some a.to
structure BInv (d : Dfa) (R : List Int) (arcs : List (List Arc)) (labs order : List Int) : Prop where
  o : OInv d R order
  lenl : labs.length = arcs.length
  le : arcs.length ≤ order.length
  rows : ∀ (i : Nat) (l : List Arc), arcs[i]? = some l → ∃ (c : Int) (s : Nat), order[i]? = some c ∧ s < d.n ∧ Live d s ∧ cl R s = c ∧ labs[i]? = some (d.lab s) ∧ RInv (grp (cl R) (d.arc s)) l order
  scan : scanAll arcs 0 1 = some order.length
theorem OInv.len {d : Dfa} {R order : List Int} (hR : CRes d R) (h : OInv d R order) : order.length ≤ d.n := by
  have hm : ∀ c ∈ order, 0 ≤ c ∧ c < d.n := by
    intro c hc
    obtain ⟨s, hs, hl, rfl⟩ := h.from_ c hc
    exact hR.live s hs hl
  have key : ∀ (n : Nat) (l : List Int), l.Nodup → (∀ c ∈ l, 0 ≤ c ∧ c < n) → l.length ≤ n := by
    intro n
    induction n with
    | zero =>
      intro l _ hl
      cases l with
      | nil => simp
      | cons a l => have := hl a (List.mem_cons_self ..); omega
    | succ n ih =>
      intro l hn hl
      have h1 := ih (l.filter (fun x => decide (x ≠ (n : Int)))) (hn.filter _) (fun c hc => by
        obtain ⟨h1, h2⟩ := List.mem_filter.1 hc
        have := hl c h1
        have h3 : c ≠ n := by simpa using h2
        omega)
      have h2 : (l.filter (fun x => decide (x = (n : Int)))).length ≤ 1 := by
        have h3 : ∀ m : List Int, m.Nodup → (∀ x ∈ m, x = (n : Int)) → m.length ≤ 1
          | [], _, _ => by simp
          | [a], _, _ => by simp
          | a :: b :: m, hn, hx => by
            exfalso
            rw [List.nodup_cons] at hn
            exact hn.1 (by rw [hx a (List.mem_cons_self ..), ← hx b (List.mem_cons_of_mem _ (List.mem_cons_self ..))]; exact List.mem_cons_self ..)
        exact h3 _ (hn.filter _) (fun x hx => by have := (List.mem_filter.1 hx).2; simpa using this)
      have h4 : l.length = (l.filter (fun x => decide (x = (n : Int)))).length + (l.filter (fun x => decide (x ≠ (n : Int)))).length := by
        have := List.length_eq_countP_add_countP (fun x => decide (x = (n : Int))) (l := l)
        rw [List.countP_eq_length_filter, List.countP_eq_length_filter] at this
        have e : (fun a : Int => decide ¬(decide (a = (n : Int))) = true) = (fun x => decide (x ≠ (n : Int))) := by
          funext x
          simp
        rw [e] at this
        exact this
      omega
  exact key d.n order h.nodup hm
structure SInv (d : Dfa) (R : List Int) (order0 : List Int) (g : List Arc) (j : Nat) (s : List Arc × List Int) : Prop where
  o : OInv d R s.2
  pre : ∃ t, s.2 = order0 ++ t
  row : RInv (g.take j) s.1 s.2
  scan : scanL s.1 order0.length = some s.2.length
theorem RInv.more {g done : List Arc} {order t : List Int} (h : RInv g done order) : RInv g done (order ++ t) :=
  ⟨h.len, fun j a ha => by
    obtain ⟨k, h1, h2⟩ := h.at_ j a ha
    exact ⟨k, h1, by rw [List.getElem?_append_left (List.getElem?_eq_some_iff.1 h2).1]; exact h2⟩⟩
theorem RInv.snoc {g done : List Arc} {order : List Int} {a : Arc} {k : Nat} (h : RInv g done order) (hk : order[k]? = some a.to) : RInv (g ++ [a]) (done ++ [⟨a.lo, a.hi, (k : Int)⟩]) order :=
  ⟨by simp [h.len], fun j b hb => by
    rw [getElem?_snoc] at hb
    rcases hb with hb | ⟨hj, rfl⟩
    · obtain ⟨k', h1, h2⟩ := h.at_ j b hb
      exact ⟨k', by rw [getElem?_snoc]; exact .inl h1, h2⟩
    · exact ⟨k, by rw [getElem?_snoc]; exact .inr ⟨by rw [h.len]; exact hj, rfl⟩, hk⟩⟩
theorem sInv_step {d : Dfa} {R order0 : List Int} {g : List Arc} {j : Nat} {s : List Arc × List Int} (h : SInv d R order0 g j s) {a : Arc} (ha : g[j]? = some a) (hc : ∃ m : Nat, m < d.n ∧ Live d m ∧ cl R m = a.to) : SInv d R order0 g (j + 1) (rstep s a) := by
  obtain ⟨hj, hja⟩ := List.getElem?_eq_some_iff.1 ha
  have ht : g.take (j + 1) = g.take j ++ [a] := by rw [List.take_succ_eq_append_getElem hj, hja]
  obtain ⟨t, ht0⟩ := h.pre
  unfold rstep
  cases hix : ix s.2 a.to with
  | some i =>
    have hi := ix_some hix
    refine ⟨h.o, ⟨t, ht0⟩, by rw [ht]; exact h.row.snoc hi, ?_⟩
    have hlt := (List.getElem?_eq_some_iff.1 hi).1
    show scanL (s.1 ++ [⟨a.lo, a.hi, (i : Int)⟩]) order0.length = _
    rw [scanL_snoc _ h.scan, if_pos (by show (i : Int) < _; omega)]
  | none =>
    have hn := ix_none hix
    refine ⟨⟨?_, ?_, ?_⟩, ⟨t ++ [a.to], by show s.2 ++ [a.to] = _; rw [ht0, List.append_assoc]⟩, ?_, ?_⟩
    · rw [List.nodup_append]
      refine ⟨h.o.nodup, by simp, fun x hx y hy e => ?_⟩
      rw [List.mem_singleton.1 hy] at e
      exact hn (e ▸ hx)
    · have hh := h.o.head
      rw [List.getElem?_append_left (List.getElem?_eq_some_iff.1 hh).1]
      exact hh
    · intro c hc2
      rcases List.mem_append.1 hc2 with hc2 | hc2
      · exact h.o.from_ c hc2
      · obtain ⟨m, h1, h2, h3⟩ := hc
        exact ⟨m, h1, h2, by rw [h3, List.mem_singleton.1 hc2]⟩
    · rw [ht]
      refine (h.row.more (t := [a.to])).snoc ?_
      rw [List.getElem?_append_right (Nat.le_refl _), Nat.sub_self]
      rfl
    · show scanL (s.1 ++ [⟨a.lo, a.hi, (s.2.length : Int)⟩]) order0.length = some (s.2 ++ [a.to]).length
      rw [scanL_snoc _ h.scan, if_neg (by show ¬ ((s.2.length : Int) < _); omega), if_pos rfl]
      simp
theorem sInv_start {d : Dfa} {R order : List Int} (h : OInv d R order) (g : List Arc) : SInv d R order g 0 ([], order) :=
  ⟨h, ⟨[], by simp⟩, ⟨by simp, fun j a ha => by simp at ha⟩, rfl⟩
theorem bInv_row {d : Dfa} {R : List Int} {arcs : List (List Arc)} {labs order : List Int} (h : BInv d R arcs labs order) {c : Int} {s : Nat} (hc : order[arcs.length]? = some c) (hs : s < d.n) (hl : Live d s) (hcs : cl R s = c)
    {st : List Arc × List Int} (hst : SInv d R order (grp (cl R) (d.arc s)) (grp (cl R) (d.arc s)).length st) : BInv d R (arcs ++ [st.1]) (labs ++ [d.lab s]) st.2 := by
  obtain ⟨t, ht⟩ := hst.pre
  have hlt := (List.getElem?_eq_some_iff.1 hc).1
  refine ⟨hst.o, by simp [h.lenl], by rw [ht]; simp; omega, fun i l hi => ?_, ?_⟩
  · rw [getElem?_snoc] at hi
    rcases hi with hi | ⟨hi, rfl⟩
    · obtain ⟨c', s', h1, h2, h3, h4, h5, h6⟩ := h.rows i l hi
      refine ⟨c', s', ?_, h2, h3, h4, by rw [getElem?_snoc]; exact .inl h5, by rw [ht]; exact h6.more⟩
      rw [ht, List.getElem?_append_left (List.getElem?_eq_some_iff.1 h1).1]
      exact h1
    · refine ⟨c, s, ?_, hs, hl, hcs, by rw [getElem?_snoc]; exact .inr ⟨by rw [h.lenl]; exact hi, rfl⟩, by have := hst.row; rwa [List.take_length] at this⟩
      rw [hi, ht, List.getElem?_append_left hlt]
      exact hc
  · rw [scanAll_snoc _ h.scan, if_pos (by omega)]
    exact hst.scan
theorem grpR_mem (cls : Int → Int) : ∀ (l : List Arc) (c : Option Arc) (a : Arc), a ∈ grpR cls c l → (∃ c0, c = some c0 ∧ a.to = c0.to) ∨ ∃ x ∈ l, cls x.to = a.to ∧ cls x.to ≠ -1
  | [], none, a, h => by cases h
  | [], some c, a, h => .inl ⟨c, rfl, by rw [List.mem_singleton.1 h]⟩
  | x :: l, none, a, h => by
    simp only [grpR] at h
    split at h
    · rcases grpR_mem cls l none a h with ⟨c0, h1, _⟩ | ⟨x', h1, h2⟩
      · cases h1
      · exact .inr ⟨x', List.mem_cons_of_mem _ h1, h2⟩
    · rename_i hn
      rcases grpR_mem cls l _ a h with ⟨c0, h1, h2⟩ | ⟨x', h1, h2⟩
      · injection h1 with h1
        subst h1
        exact .inr ⟨x, List.mem_cons_self .., h2.symm, hn⟩
      · exact .inr ⟨x', List.mem_cons_of_mem _ h1, h2⟩
  | x :: l, some c, a, h => by
    simp only [grpR] at h
    split at h
    · rcases grpR_mem cls l _ a h with h1 | ⟨x', h1, h2⟩
      · exact .inl h1
      · exact .inr ⟨x', List.mem_cons_of_mem _ h1, h2⟩
    · rename_i hn
      split at h
      · rcases grpR_mem cls l _ a h with ⟨c0, h1, h2⟩ | ⟨x', h1, h2⟩
        · injection h1 with h1
          subst h1
          exact .inl ⟨c, rfl, h2⟩
        · exact .inr ⟨x', List.mem_cons_of_mem _ h1, h2⟩
      · rcases List.mem_cons.1 h with rfl | h
        · exact .inl ⟨_, rfl, rfl⟩
        · rcases grpR_mem cls l _ a h with ⟨c0, h1, h2⟩ | ⟨x', h1, h2⟩
          · injection h1 with h1
            subst h1
            exact .inr ⟨x, List.mem_cons_self .., h2.symm, hn⟩
          · exact .inr ⟨x', List.mem_cons_of_mem _ h1, h2⟩
theorem grp_class {d : Dfa} {R : List Int} (hd : Ok d) (hR : CRes d R) {s : Int} {a : Arc} (h : a ∈ grp (cl R) (d.arc s)) : ∃ m : Nat, m < d.n ∧ Live d m ∧ cl R m = a.to := by
  rcases grpR_mem (cl R) _ none a h with ⟨_, h1, _⟩ | ⟨x, h1, h2, h3⟩
  · cases h1
  · have hb := okA_bounds (hd.arc_ok s) x h1
    obtain ⟨m, hm⟩ := Int.eq_ofNat_of_zero_le hb.2.2.2.2.1
    have hmn : m < d.n := by have := hb.2.2.2.2.2; omega
    rw [hm] at h2 h3
    refine ⟨m, hmn, ?_, h2⟩
    rcases Classical.em (Live d m) with h | h
    · exact h
    · exact absurd (hR.dead m hmn h) h3
theorem rstep_hit {s : List Arc × List Int} {a : Arc} {i : Nat} (h : ix s.2 a.to = some i) : rstep s a = (s.1 ++ [⟨a.lo, a.hi, (i : Int)⟩], s.2) := by
  simp only [rstep, h]
theorem rstep_miss {s : List Arc × List Int} {a : Arc} (h : ix s.2 a.to = none) : rstep s a = (s.1 ++ [⟨a.lo, a.hi, (s.2.length : Int)⟩], s.2 ++ [a.to]) := by
  simp only [rstep, h]
theorem SInv.len {d : Dfa} {R order0 : List Int} {g : List Arc} {j : Nat} {s : List Arc × List Int} (h : SInv d R order0 g j s) (hj : j ≤ g.length) : s.1.length = j := by
  rw [h.row.len, List.length_take]
  omega
theorem put_next (s : List Arc) (g : List Arc) (j : Nat) (x : Arc) (hs : s.length = j) (hj : j < g.length) : (s ++ g.drop j).set j x = (s ++ [x]) ++ g.drop (j + 1) := by
  rw [List.set_append_right _ _ (by omega), hs, Nat.sub_self, List.drop_eq_getElem_cons hj, List.set_cons_zero, List.append_assoc]
  rfl
theorem at_next (s : List Arc) (g : List Arc) (j : Nat) (hs : s.length = j) (z : Arc) : (s ++ g.drop j).getD j z = g.getD j z := by
  rw [List.getD_eq_getElem?_getD, List.getD_eq_getElem?_getD, List.getElem?_append_right (by omega), hs, Nat.sub_self, List.getElem?_drop, Nat.add_zero]
theorem bInv_start {d : Dfa} {R : List Int} (hd : Ok d) (hl : Live d d.start) : BInv d R [] [] [cl R d.start] := by
  obtain ⟨m, hm⟩ := Int.eq_ofNat_of_zero_le hd.st0
  refine ⟨⟨by simp, rfl, fun c hc => ⟨m, by have := hd.st1; omega, by rw [← hm]; exact hl, by rw [← hm, List.mem_singleton.1 hc]⟩⟩, rfl, by simp, fun i l hi => by simp at hi, rfl⟩
end Go.Proofs.YthohahcpdgebbaaDoor.Th
namespace Go.Proofs.YthohahcpdgebbaaDoor.Th
open Go.Proofs.YthohahcpdgebbaaDoor.Wk (cl)
def relS (E : Int → Int → Prop) : Option Int → Option Int → Prop
  | none, none => True
  | some t, some t' => E t t'
  | _, _ => False
theorem uniqE_hi {n m : Int} {E : Int → Int → Prop} (inj : ∀ t u v, E t v → E u v → t = u) {a b : Arc} {l1 l2 : List Arc} {c1 c2 : Int} (o1 : okA n c1 (a :: l1)) (o2 : okA m c2 (b :: l2)) (m1 : mg (a :: l1)) (hto : E a.to b.to)
    (h : ∀ r, isC r → relS E (stp (a :: l1) r) (stp (b :: l2) r)) : b.hi ≤ a.hi ∨ b.lo ≠ a.lo := by
  by_cases hlo : a.lo = b.lo
  · left
    rcases Int.lt_or_le a.hi b.hi with hlt | hle
    · exfalso
      obtain ⟨_, p2, p3, p4, p5, p6, p7⟩ := o1
      obtain ⟨_, q2, q3, q4, q5, q6, q7⟩ := o2
      have hc := nx_C p3 q3 hlt
      have hl := nx_le p3 q3 hlt
      have hg := nx_gt a.hi
      have hr := h (nx a.hi) hc
      have e2 : stp (b :: l2) (nx a.hi) = some b.to := by unfold stp; rw [if_pos (by omega)]
      have e1 : stp (a :: l1) (nx a.hi) = stp l1 (nx a.hi) := by rw [stp, if_neg (by omega)]
      rw [e1, e2] at hr
      cases l1 with
      | nil => simp [stp, relS] at hr
      | cons x l1 =>
        obtain ⟨x1, x2, x3, x4, x5, x6, x7⟩ := p7
        have hx := nx_le p3 x2 x1
        by_cases hin : x.lo ≤ nx a.hi ∧ nx a.hi ≤ x.hi
        · rw [stp, if_pos hin] at hr
          have := inj _ _ _ hto hr
          exact m1.1 ⟨this, by omega⟩
        · rw [stp, if_neg hin, stp_low x7 (by omega)] at hr
          simp [relS] at hr
    · exact hle
  · exact .inr (fun e => hlo e.symm)
theorem relS_symm {E : Int → Int → Prop} {x y : Option Int} (h : relS E x y) : relS (fun t t' => E t' t) y x := by
  cases x <;> cases y <;> exact h
theorem uniqE {n m : Int} {E : Int → Int → Prop} (inj : ∀ t u v, E t v → E u v → t = u) (inj' : ∀ t u v, E t u → E t v → u = v) : ∀ (l1 l2 : List Arc) (b : Int) (c e e' : Nat), okA n b l1 → okA m b l2 → mg l1 → mg l2 →
    (∀ r, isC r → relS E (stp l1 r) (stp l2 r)) → (∀ j : Nat, j < c → E j j) → scanL l1 c = some e → scanL l2 c = some e' → l1 = l2 ∧ ∀ j : Nat, j < e → E j j
  | [], [], _, c, e, e', _, _, _, _, _, hc, s1, _ => by
    injection s1 with s1
    exact ⟨rfl, s1 ▸ hc⟩
  | [], a :: l, b, _, _, _, _, o, _, _, h, _, _, _ => by
    obtain ⟨h1, h2, h3, h4, _⟩ := o
    have := h a.lo h2
    rw [stp, stp, if_pos (by omega)] at this
    exact this.elim
  | a :: l, [], b, _, _, _, o, _, _, _, h, _, _, _ => by
    obtain ⟨h1, h2, h3, h4, _⟩ := o
    have := h a.lo h2
    rw [stp, stp, if_pos (by omega)] at this
    exact this.elim
  | a :: l1, x :: l2, b, c, e, e', o1, o2, m1, m2, h, hc, s1, s2 => by
    have e1 : stp (a :: l1) a.lo = some a.to := by unfold stp; rw [if_pos ⟨by omega, o1.2.2.2.1⟩]
    have e2 : stp (x :: l2) x.lo = some x.to := by unfold stp; rw [if_pos ⟨by omega, o2.2.2.2.1⟩]
    have hlo : a.lo = x.lo := by
      have ha := h a.lo o1.2.1
      have hx := h x.lo o2.2.1
      rw [e1] at ha
      rw [e2] at hx
      have g1 : ¬ a.lo < x.lo := fun hlt => by
        rw [stp_low (n := m) (b := a.lo) (l := x :: l2) (by exact ⟨hlt, o2.2⟩) (Int.le_refl _)] at ha
        exact ha.elim
      have g2 : ¬ x.lo < a.lo := fun hlt => by
        rw [stp_low (n := n) (b := x.lo) (l := a :: l1) (by exact ⟨hlt, o1.2⟩) (Int.le_refl _)] at hx
        exact hx.elim
      omega
    have hE : E a.to x.to := by
      have ha := h a.lo o1.2.1
      rw [e1, hlo, e2] at ha
      exact ha
    have hhi : a.hi = x.hi := by
      have g1 := uniqE_hi inj o1 o2 m1 hE h
      have g2 := uniqE_hi (E := fun t t' => E t' t) (fun t u v h1 h2 => inj' _ _ _ h1 h2) o2 o1 m2 hE (fun r hr => relS_symm (h r hr))
      rcases g1 with g1 | g1
      · rcases g2 with g2 | g2
        · omega
        · exact absurd hlo g2
      · exact absurd hlo.symm g1
    have a0 : 0 ≤ a.to := o1.2.2.2.2.1
    have x0 : 0 ≤ x.to := o2.2.2.2.2.1
    simp only [scanL] at s1 s2
    have hrest : ∀ r, isC r → relS E (stp l1 r) (stp l2 r) := fun r hr => by
      rcases Int.lt_or_le a.hi r with hlt | hle
      · have := h r hr
        rw [stp, stp, if_neg (by omega), if_neg (by omega)] at this
        exact this
      · rw [stp_low o1.2.2.2.2.2.2 hle, stp_low o2.2.2.2.2.2.2 (by omega)]
        trivial
    have key : a.to = x.to ∧ ∃ c1 : Nat, scanL l1 c1 = some e ∧ scanL l2 c1 = some e' ∧ ∀ j : Nat, j < c1 → E j j := by
      by_cases k1 : a.to < (c : Int)
      · obtain ⟨t, ht⟩ := Int.eq_ofNat_of_zero_le a0
        have hEt := hc t (by omega)
        rw [← ht] at hEt
        have hax := inj' _ _ _ hEt hE
        rw [if_pos k1] at s1
        rw [if_pos (by omega)] at s2
        exact ⟨hax, c, s1, s2, hc⟩
      · rw [if_neg k1] at s1
        by_cases k2 : a.to = (c : Int)
        · rw [if_pos k2] at s1
          have k3 : ¬ x.to < (c : Int) := fun hlt => by
            obtain ⟨t, ht⟩ := Int.eq_ofNat_of_zero_le x0
            have hEt := hc t (by omega)
            rw [← ht] at hEt
            have := inj _ _ _ hEt hE
            omega
          rw [if_neg k3] at s2
          by_cases k4 : x.to = (c : Int)
          · rw [if_pos k4] at s2
            refine ⟨by omega, c + 1, s1, s2, fun j hj => ?_⟩
            rcases Nat.lt_or_ge j c with hjc | hjc
            · exact hc j hjc
            · obtain rfl : j = c := by omega
              rw [k2, k4] at hE
              exact hE
          · rw [if_neg k4] at s2
            cases s2
        · rw [if_neg k2] at s1
          cases s1
    obtain ⟨hto, c1, r1, r2, hc1⟩ := key
    have hax : a = x := by cases a; cases x; simp_all
    subst hax
    obtain ⟨h1, h2⟩ := uniqE inj inj' l1 l2 a.hi c1 e e' o1.2.2.2.2.2.2 o2.2.2.2.2.2.2 m1.tail m2.tail hrest hc1 r1 r2
    exact ⟨by rw [h1], h2⟩
end Go.Proofs.YthohahcpdgebbaaDoor.Th
namespace Go.Proofs.YthohahcpdgebbaaDoor.Th
open Go.Proofs.YthohahcpdgebbaaDoor.Wk (cl)
structure Canon (m : Dfa) : Prop where
  ok : Ok m
  st : m.start = 0
  mgd : ∀ l ∈ m.arcs, mg l
  red : ∀ i j : Nat, i < m.n → j < m.n → Eqv m i m j → i = j
  live : (∀ i : Nat, i < m.n → Live m i) ∨ m = ⟨0, [[]], [-1]⟩
  scan : scanAll m.arcs 0 1 = some m.n
theorem RInv.cons {a : Arc} {g l : List Arc} {order : List Int} (h : RInv (a :: g) l order) : ∃ (k : Nat) (l' : List Arc), l = ⟨a.lo, a.hi, (k : Int)⟩ :: l' ∧ order[k]? = some a.to ∧ RInv g l' order := by
  obtain ⟨k, h1, h2⟩ := h.at_ 0 a rfl
  cases l with
  | nil => simp at h1
  | cons b l =>
    simp only [List.getElem?_cons_zero, Option.some.injEq] at h1
    subst h1
    exact ⟨k, l, rfl, h2, by have := h.len; simpa using this, fun j b hb => h.at_ (j + 1) b hb⟩
theorem RInv.nil {l : List Arc} {order : List Int} (h : RInv [] l order) : l = [] := List.length_eq_zero_iff.1 h.len
theorem RInv.stp {order : List Int} {r : Int} : ∀ {g l : List Arc}, RInv g l order → (stp g r = none ∧ stp l r = none) ∨ ∃ (c : Int) (k : Nat), stp g r = some c ∧ stp l r = some (k : Int) ∧ order[k]? = some c
  | [], l, h => by rw [h.nil]; exact .inl ⟨rfl, rfl⟩
  | a :: g, l, h => by
    obtain ⟨k, l', rfl, h2, h3⟩ := h.cons
    unfold Th.stp
    by_cases hr : a.lo ≤ r ∧ r ≤ a.hi
    · rw [if_pos hr, if_pos (by exact hr)]
      exact .inr ⟨a.to, k, rfl, rfl, h2⟩
    · rw [if_neg hr, if_neg (by exact hr)]
      exact h3.stp
theorem RInv.ok {n : Int} {order : List Int} : ∀ {b : Int} {g l : List Arc}, RInv g l order → okA n b g → okA order.length b l
  | _, [], l, h, _ => by rw [h.nil]; trivial
  | b, a :: g, l, h, o => by
    obtain ⟨k, l', rfl, h2, h3⟩ := h.cons
    obtain ⟨o1, o2, o3, o4, o5, o6, o7⟩ := o
    have hk := (List.getElem?_eq_some_iff.1 h2).1
    exact ⟨o1, o2, o3, o4, by show (0 : Int) ≤ (k : Int); omega, by show (k : Int) < (order.length : Int); omega, h3.ok o7⟩
theorem RInv.mg {order : List Int} : ∀ {g l : List Arc}, RInv g l order → mg g → mg l
  | [], l, h, _ => by rw [h.nil]; trivial
  | [a], l, h, _ => by
    obtain ⟨k, l', rfl, h2, h3⟩ := h.cons
    rw [h3.nil]
    trivial
  | a :: b :: g, l, h, hm => by
    obtain ⟨k, l', rfl, h2, h3⟩ := h.cons
    obtain ⟨k', l'', rfl, h4, h5⟩ := h3.cons
    refine ⟨fun e => hm.1 ⟨?_, e.2⟩, h3.mg hm.2⟩
    have e1 : (k : Int) = (k' : Int) := e.1
    obtain rfl : k = k' := by omega
    rw [h2] at h4
    exact Option.some.inj h4
section
variable {d m : Dfa} {R order : List Int}
theorem bInv_at (hB : BInv d R m.arcs m.labels order) {i : Nat} (hi : i < m.n) : ∃ s : Nat, order[i]? = some (cl R s) ∧ s < d.n ∧ Live d s ∧ m.lab i = d.lab s ∧ RInv (grp (cl R) (d.arc s)) (m.arc i) order := by
  have hl : m.arcs[i]? = some (m.arc i) := by
    unfold Dfa.arc
    rw [Int.toNat_natCast, List.getD_eq_getElem?_getD, List.getElem?_eq_getElem hi]
    rfl
  obtain ⟨c, s, h1, h2, h3, h4, h5, h6⟩ := hB.rows i _ hl
  refine ⟨s, by rw [h4]; exact h1, h2, h3, ?_, h6⟩
  unfold Dfa.lab
  rw [Int.toNat_natCast, List.getD_eq_getElem?_getD, h5]
  rfl
theorem bInv_run (hd : Ok d) (hR : CRes d R) (hB : BInv d R m.arcs m.labels order) (hlen : order.length = m.arcs.length) : ∀ (w : List Int) (i s : Nat), allC w → s < d.n → Live d s → order[i]? = some (cl R s) → run m i w = run d s w
  | [], i, s, _, hs, hl, hi => by
    have hin : i < m.n := by have := (List.getElem?_eq_some_iff.1 hi).1; unfold Dfa.n; omega
    obtain ⟨s0, h1, h2, h3, h4, _⟩ := bInv_at hB hin
    rw [hi] at h1
    have he := (hR.same s s0 hs h2 hl h3).1 (Option.some.inj h1)
    have := he [] allC_nil
    simp only [run] at this ⊢
    rw [h4, this]
  | r :: w, i, s, hw, hs, hl, hi => by
    obtain ⟨hr, hw⟩ := allC_cons.1 hw
    have hin : i < m.n := by have := (List.getElem?_eq_some_iff.1 hi).1; unfold Dfa.n; omega
    obtain ⟨s0, h1, h2, h3, h4, h5⟩ := bInv_at hB hin
    rw [hi] at h1
    have he := (hR.same s s0 hs h2 hl h3).1 (Option.some.inj h1)
    rw [he (r :: w) (allC_cons.2 ⟨hr, hw⟩)]
    have hg := grp_stp (cl R) hr (hd.arc_ok s0)
    cases hst : stp (d.arc s0) r with
    | none =>
      rw [hst] at hg
      rw [run_cons_none hst]
      rcases h5.stp (r := r) with ⟨g1, g2⟩ | ⟨c, k, g1, g2, g3⟩
      · exact run_cons_none g2
      · rw [hg] at g1
        cases g1
    | some t =>
      obtain ⟨t, rfl, ht⟩ := stp_in hd hst
      rw [hst, Option.bind_some] at hg
      rw [run_cons_some hst]
      by_cases hlt : Live d t
      · unfold via at hg
        have hc := hR.live t ht hlt
        rw [if_neg (by omega)] at hg
        rcases h5.stp (r := r) with ⟨g1, g2⟩ | ⟨c, k, g1, g2, g3⟩
        · rw [hg] at g1
          cases g1
        · rw [run_cons_some g2]
          rw [hg] at g1
          injection g1 with g1
          rw [← g1] at g3
          exact bInv_run hd hR hB hlen w k t hw ht hlt g3
      · unfold via at hg
        rw [if_pos (hR.dead t ht hlt)] at hg
        rcases h5.stp (r := r) with ⟨g1, g2⟩ | ⟨c, k, g1, g2, g3⟩
        · rw [run_cons_none g2, dead hlt hw]
        · rw [hg] at g1
          cases g1
theorem canon_of_bInv (hd : Ok d) (hl : Live d d.start) (h0 : m.start = 0) (hR : CRes d R) (hB : BInv d R m.arcs m.labels order) (hlen : order.length = m.arcs.length) : Canon m ∧ Eqv m m.start d d.start ∧ m.n ≤ d.n := by
  have hn : order.length ≤ d.n := hB.o.len hR
  have hmn : m.n = order.length := hlen.symm
  have hpos : 0 < order.length := (List.getElem?_eq_some_iff.1 hB.o.head).1
  obtain ⟨s0, hs0⟩ := Int.eq_ofNat_of_zero_le hd.st0
  have hs1 : s0 < d.n := by have := hd.st1; omega
  have hE : ∀ i : Nat, i < m.n → ∃ s : Nat, s < d.n ∧ Live d s ∧ order[i]? = some (cl R s) ∧ Eqv m i d s := fun i hi => by
    obtain ⟨s, h1, h2, h3, _⟩ := bInv_at hB hi
    exact ⟨s, h2, h3, h1, fun w hw => bInv_run hd hR hB hlen w i s hw h2 h3 h1⟩
  refine ⟨⟨⟨by omega, by have := hd.lim; omega, hB.lenl, by omega, by omega, ?_, ?_⟩, h0, ?_, ?_, .inl ?_, by rw [hmn]; exact hB.scan⟩, ?_, by omega⟩
  · intro x hx
    obtain ⟨i, hi, rfl⟩ := List.mem_iff_getElem.1 hx
    have hin : i < m.n := by have := hB.lenl; unfold Dfa.n; omega
    obtain ⟨s, _, _, _, h4, _⟩ := bInv_at hB hin
    have : m.lab i = m.labels[i] := by unfold Dfa.lab; rw [Int.toNat_natCast, List.getD_eq_getElem?_getD, List.getElem?_eq_getElem hi]; rfl
    rw [← this, h4]
    exact hd.lab_ge s
  · intro l hl2
    obtain ⟨i, hi, rfl⟩ := List.mem_iff_getElem.1 hl2
    obtain ⟨s, _, h2, _, _, h5⟩ := bInv_at hB hi
    have : m.arc i = m.arcs[i] := by unfold Dfa.arc; rw [Int.toNat_natCast, List.getD_eq_getElem?_getD, List.getElem?_eq_getElem hi]; rfl
    rw [← this, hmn]
    exact h5.ok (grp_ok (m := d.n) (cl R) (fun t ht0 ht1 => by
      obtain ⟨t, rfl⟩ := Int.eq_ofNat_of_zero_le ht0
      have ht2 : t < d.n := by omega
      by_cases hlt : Live d t
      · exact .inr (hR.live t ht2 hlt)
      · exact .inl (hR.dead t ht2 hlt)) (hd.arc_ok s)).1
  · intro l hl2
    obtain ⟨i, hi, rfl⟩ := List.mem_iff_getElem.1 hl2
    obtain ⟨s, _, h2, _, _, h5⟩ := bInv_at hB hi
    have : m.arc i = m.arcs[i] := by unfold Dfa.arc; rw [Int.toNat_natCast, List.getD_eq_getElem?_getD, List.getElem?_eq_getElem hi]; rfl
    rw [← this]
    exact h5.mg (grp_ok (m := d.n) (cl R) (fun t ht0 ht1 => by
      obtain ⟨t, rfl⟩ := Int.eq_ofNat_of_zero_le ht0
      have ht2 : t < d.n := by omega
      by_cases hlt : Live d t
      · exact .inr (hR.live t ht2 hlt)
      · exact .inl (hR.dead t ht2 hlt)) (hd.arc_ok s)).2
  · intro i j hi hj he
    obtain ⟨s, h1, h2, h3, h4⟩ := hE i hi
    obtain ⟨t, g1, g2, g3, g4⟩ := hE j hj
    have hst : Eqv d s d t := h4.symm.trans (he.trans g4)
    have := (hR.same s t h1 g1 h2 g2).2 hst
    rw [this, ← g3] at h3
    exact (List.getElem?_inj (by omega) hB.o.nodup).1 h3
  · intro i hi
    obtain ⟨s, h1, h2, h3, h4⟩ := hE i hi
    exact h4.symm.live h2
  · have hh := hB.o.head
    rw [hs0] at hh hl ⊢
    rw [h0]
    exact fun w hw => bInv_run hd hR hB hlen w 0 s0 hw hs1 hl hh
end
theorem dead_run : ∀ (w : List Int), run ⟨0, [[]], [-1]⟩ 0 w = -1
  | [] => rfl
  | _ :: _ => rfl
theorem canon_dead : Canon ⟨0, [[]], [-1]⟩ :=
  ⟨⟨by decide, by decide, rfl, by decide, by decide, by decide, fun l hl => by rw [List.mem_singleton.1 hl]; trivial⟩, rfl, fun l hl => by rw [List.mem_singleton.1 hl]; trivial,
    fun i j hi hj _ => by
      have hi : i < 1 := hi
      have hj : j < 1 := hj
      omega, .inr rfl, rfl⟩
theorem dead_eqv {d : Dfa} (h : ¬ Live d d.start) : Eqv ⟨0, [[]], [-1]⟩ 0 d d.start := fun w hw => by rw [dead_run, dead h hw]
theorem Canon.dead_of {m : Dfa} (h : Canon m) (hd : ¬ Live m 0) : m = ⟨0, [[]], [-1]⟩ := by
  rcases h.live with hl | hl
  · exact absurd (hl 0 (by have := h.ok.pos; omega)) hd
  · exact hl
def eqS (m m' : Dfa) (t t' : Int) : Prop := ∃ i i' : Nat, t = i ∧ t' = i' ∧ i < m.n ∧ i' < m'.n ∧ Eqv m i m' i'
theorem eqS_inj {m m' : Dfa} (h : Canon m) (t u v : Int) (h1 : eqS m m' t v) (h2 : eqS m m' u v) : t = u := by
  obtain ⟨i, i', rfl, rfl, a1, a2, a3⟩ := h1
  obtain ⟨j, j', rfl, e, b1, b2, b3⟩ := h2
  obtain rfl : i' = j' := by omega
  rw [h.red i j a1 b1 (a3.trans b3.symm)]
theorem eqS_inj' {m m' : Dfa} (h : Canon m') (t u v : Int) (h1 : eqS m m' t u) (h2 : eqS m m' t v) : u = v := by
  obtain ⟨i, i', rfl, rfl, a1, a2, a3⟩ := h1
  obtain ⟨j, j', e, rfl, b1, b2, b3⟩ := h2
  obtain rfl : i = j := by omega
  rw [h.red i' j' a2 b2 (a3.symm.trans b3)]
theorem arc_at {m : Dfa} {i : Nat} {l : List Arc} {ls : List (List Arc)} (h : m.arcs.drop i = l :: ls) : m.arc i = l ∧ i < m.n ∧ m.arcs.drop (i + 1) = ls := by
  have hi : i < m.arcs.length := by
    have := congrArg List.length h
    simp at this
    omega
  rw [List.drop_eq_getElem_cons hi] at h
  injection h with h1 h2
  refine ⟨?_, hi, h2⟩
  unfold Dfa.arc
  rw [Int.toNat_natCast, List.getD_eq_getElem?_getD, List.getElem?_eq_getElem hi]
  exact h1
theorem canon_rows {m m' : Dfa} (h : Canon m) (h' : Canon m') (hl : ∀ i : Nat, i < m.n → Live m i) (hl' : ∀ i : Nat, i < m'.n → Live m' i) : ∀ (ls ls' : List (List Arc)) (i c : Nat), m.arcs.drop i = ls → m'.arcs.drop i = ls' →
    scanAll ls i c = some m.n → scanAll ls' i c = some m'.n → (∀ j : Nat, j < c → eqS m m' j j) → ls = ls' ∧ ∀ j : Nat, j < m.n → eqS m m' j j
  | [], [], i, c, _, _, s, s', hc => by
    injection s with s
    exact ⟨rfl, s ▸ hc⟩
  | [], l :: ls', i, c, e, e', s, s', hc => by
    injection s with s
    have hi : m.n ≤ i := by unfold Dfa.n; exact List.drop_eq_nil_iff.1 e
    simp only [scanAll] at s'
    split at s'
    · omega
    · cases s'
  | l :: ls, [], i, c, e, e', s, s', hc => by
    injection s' with s'
    have hi : m'.n ≤ i := by unfold Dfa.n; exact List.drop_eq_nil_iff.1 e'
    simp only [scanAll] at s
    split at s
    · omega
    · cases s
  | l :: ls, l' :: ls', i, c, e, e', s, s', hc => by
    obtain ⟨a1, a2, a3⟩ := arc_at e
    obtain ⟨b1, b2, b3⟩ := arc_at e'
    simp only [scanAll] at s s'
    split at s
    · rename_i hic
      rw [if_pos hic] at s'
      obtain ⟨j, j', e1, e2, _, _, hE⟩ := hc i hic
      obtain rfl : i = j := by omega
      obtain rfl : i = j' := by omega
      cases h1 : scanL l c with
      | none => rw [h1] at s; cases s
      | some c1 =>
        cases h2 : scanL l' c with
        | none => rw [h2] at s'; cases s'
        | some c2 =>
          rw [h1, Option.bind_some] at s
          rw [h2, Option.bind_some] at s'
          have hrel : ∀ r, isC r → relS (eqS m m') (stp l r) (stp l' r) := fun r hr => by
            cases g1 : stp l r with
            | none =>
              cases g2 : stp l' r with
              | none => trivial
              | some t' =>
                rw [← a1] at g1
                rw [← b1] at g2
                obtain ⟨t', rfl, ht'⟩ := stp_in h'.ok g2
                exact hE.symm.step_none hr g2 g1 (hl' t' ht')
            | some t =>
              rw [← a1] at g1
              obtain ⟨t, rfl, ht⟩ := stp_in h.ok g1
              cases g2 : stp l' r with
              | none =>
                rw [← b1] at g2
                exact hE.step_none hr g1 g2 (hl t ht)
              | some t' =>
                rw [← b1] at g2
                obtain ⟨t', rfl, ht'⟩ := stp_in h'.ok g2
                exact ⟨t, t', rfl, rfl, ht, ht', hE.step hr g1 g2⟩
          have hml : mg l := h.mgd l (List.mem_of_mem_drop (i := i) (by rw [e]; exact List.mem_cons_self ..))
          have hml' : mg l' := h'.mgd l' (List.mem_of_mem_drop (i := i) (by rw [e']; exact List.mem_cons_self ..))
          obtain ⟨hll, hc1⟩ := uniqE (eqS_inj h) (eqS_inj' h') l l' (-1) c c1 c2 (a1 ▸ h.ok.arc_ok i) (b1 ▸ h'.ok.arc_ok i) hml hml' hrel hc h1 h2
          subst hll
          rw [h1] at h2
          injection h2 with h2
          subst h2
          obtain ⟨hls, hend⟩ := canon_rows h h' hl hl' ls ls' (i + 1) c1 a3 b3 s s' hc1
          exact ⟨by rw [hls], hend⟩
    · cases s
theorem lab_get {m : Dfa} {i : Nat} (hi : i < m.labels.length) : m.labels[i] = m.lab i := by
  unfold Dfa.lab
  rw [Int.toNat_natCast, List.getD_eq_getElem?_getD, List.getElem?_eq_getElem hi]
  rfl
theorem canon_uniq {m m' : Dfa} (h : Canon m) (h' : Canon m') (hE : Eqv m 0 m' 0) : m = m' := by
  by_cases h0 : Live m 0
  · have h0' := hE.live h0
    rcases h.live with hl | hl
    · rcases h'.live with hl' | hl'
      · have hz : eqS m m' ((0 : Nat) : Int) ((0 : Nat) : Int) := ⟨0, 0, rfl, rfl, by have := h.ok.pos; omega, by have := h'.ok.pos; omega, hE⟩
        obtain ⟨ha, hj⟩ := canon_rows h h' hl hl' m.arcs m'.arcs 0 1 rfl rfl h.scan h'.scan (fun j hj => by
          obtain rfl : j = 0 := by omega
          exact hz)
        have hn : m.n = m'.n := by unfold Dfa.n; rw [ha]
        have hlab : m.labels = m'.labels := by
          refine List.ext_getElem (by rw [h.ok.len, h'.ok.len, hn]) (fun i h1 h2 => ?_)
          rw [lab_get h1, lab_get h2]
          obtain ⟨k, k', e1, e2, _, _, hk⟩ := hj i (by rw [← h.ok.len]; exact h1)
          obtain rfl : i = k := by omega
          obtain rfl : i = k' := by omega
          exact hk [] allC_nil
        cases m
        cases m'
        have s1 := h.st
        have s2 := h'.st
        simp only at s1 s2 ha hlab
        subst s1 s2 ha hlab
        rfl
      · rw [hl'] at h0'
        obtain ⟨w, _, hw⟩ := h0'
        exact absurd (dead_run w) hw
    · rw [hl] at h0
      obtain ⟨w, _, hw⟩ := h0
      exact absurd (dead_run w) hw
  · rw [h.dead_of h0, h'.dead_of (fun hl => h0 (hE.symm.live hl))]
end Go.Proofs.YthohahcpdgebbaaDoor.Th
namespace Go.Proofs.YthohahcpdgebbaaDoor.Th
open Go.Proofs.YthohahcpdgebbaaDoor.Wk (cl)
structure Nf where
  start : Int
  acc : Int
  arcs : List (List Arc)
  empty : List (List Int)
deriving Inhabited
def Nf.n (a : Nf) : Nat := a.arcs.length
def Nf.arc (a : Nf) (s : Int) : List Arc := a.arcs.getD s.toNat []
def Nf.emp (a : Nf) (s : Int) : List Int := a.empty.getD s.toNat []
def okM (n : Int) (x : Arc) : Prop := isC x.lo ∧ isC x.hi ∧ x.lo ≤ x.hi ∧ 0 ≤ x.to ∧ x.to < n
structure OkN (a : Nf) : Prop where
  pos : 1 ≤ a.n
  lim : a.n ≤ 3000
  len : a.empty.length = a.n
  st0 : 0 ≤ a.start
  st1 : a.start < a.n
  ac0 : 0 ≤ a.acc
  ac1 : a.acc < a.n
  arcs : ∀ l ∈ a.arcs, ∀ x ∈ l, okM a.n x
  empty : ∀ l ∈ a.empty, ∀ s ∈ l, 0 ≤ s ∧ s < a.n
theorem OkN.arc_ok {a : Nf} (h : OkN a) (s : Int) : ∀ x ∈ a.arc s, okM a.n x := by
  intro x hx
  unfold Nf.arc at hx
  rw [List.getD_eq_getElem?_getD] at hx
  cases hs : a.arcs[s.toNat]? with
  | none => rw [hs] at hx; cases hx
  | some l => rw [hs] at hx; exact h.arcs l (List.mem_of_getElem? hs) x hx
theorem OkN.emp_ok {a : Nf} (h : OkN a) (s : Int) : ∀ x ∈ a.emp s, 0 ≤ x ∧ x < a.n := by
  intro x hx
  unfold Nf.emp at hx
  rw [List.getD_eq_getElem?_getD] at hx
  cases hs : a.empty[s.toNat]? with
  | none => rw [hs] at hx; cases hx
  | some l => rw [hs] at hx; exact h.empty l (List.mem_of_getElem? hs) x hx
inductive Rch (a : Nf) (S : List Int) : Int → Prop
  | base {s : Int} : s ∈ S → Rch a S s
  | step {s t : Int} : Rch a S s → t ∈ a.emp s → Rch a S t
theorem Rch.in {a : Nf} (h : OkN a) {S : List Int} (hS : ∀ s ∈ S, 0 ≤ s ∧ s < a.n) {s : Int} (r : Rch a S s) : 0 ≤ s ∧ s < a.n := by
  induction r with
  | base hs => exact hS _ hs
  | step _ ht _ => exact h.emp_ok _ _ ht
theorem Rch.mono {a : Nf} {S S' : List Int} (h : ∀ s ∈ S, s ∈ S') {s : Int} (r : Rch a S s) : Rch a S' s := by
  induction r with
  | base hs => exact .base (h _ hs)
  | step _ ht ih => exact .step ih ht
open Classical in
noncomputable def clo (a : Nf) (S : List Int) : List Int := ((List.range a.n).map Int.ofNat).filter (fun s => decide (Rch a S s))
open Classical in
theorem mem_clo {a : Nf} {S : List Int} {s : Int} : s ∈ clo a S ↔ (0 ≤ s ∧ s < a.n) ∧ Rch a S s := by
  unfold clo
  rw [List.mem_filter, decide_eq_true_eq]
  constructor
  · rintro ⟨h, hr⟩
    obtain ⟨i, hi, rfl⟩ := List.mem_map.1 h
    exact ⟨⟨Int.natCast_nonneg _, by have := List.mem_range.1 hi; show (i : Int) < _; omega⟩, hr⟩
  · rintro ⟨⟨h0, h1⟩, hr⟩
    obtain ⟨i, rfl⟩ := Int.eq_ofNat_of_zero_le h0
    exact ⟨List.mem_map.2 ⟨i, List.mem_range.2 (by omega), rfl⟩, hr⟩
open Classical in
theorem clo_nil {a : Nf} : clo a [] = [] := by
  have : ∀ s, ¬ Rch a [] s := fun s r => by
    induction r with
    | base hs => cases hs
    | step _ _ ih => exact ih
  unfold clo
  rw [List.filter_eq_nil_iff]
  intro s _
  rw [decide_eq_true_eq]
  exact this s
structure GInv (n : Nat) (P : Int → Prop) (Q : Int → Int → Prop) (bs : List Bool) (ts : List Int) (ex : Int → Prop) : Prop where
  len : bs.length = n
  sound : ∀ s : Nat, bs.getD s false = true → P s
  todo : ∀ t ∈ ts, 0 ≤ t ∧ t < n ∧ bs.getD t.toNat false = true
  closed : ∀ t : Nat, bs.getD t false = true → (t : Int) ∉ ts → ¬ ex t → ∀ p : Nat, p < n → Q p t → bs.getD p false = true
  cnt : ts.length + bs.count false ≤ n
theorem gInv_start (n : Nat) (P : Int → Prop) (Q : Int → Int → Prop) (ex : Int → Prop) : GInv n P Q (List.replicate n false) [] ex := by
  have h0 : ∀ s : Nat, (List.replicate n false).getD s false = true → False := by
    intro s hs
    rw [List.getD_eq_getElem?_getD, List.getElem?_replicate] at hs
    split at hs <;> simp at hs
  exact ⟨by simp, fun s hs => (h0 s hs).elim, (fun t ht => by cases ht), fun t ht => (h0 t ht).elim, by simp⟩
theorem gInv_mark {n : Nat} {P : Int → Prop} {Q : Int → Int → Prop} {bs : List Bool} {ts : List Int} {ex : Int → Prop} (h : GInv n P Q bs ts ex) {s : Int} (h0 : 0 ≤ s) (h1 : s < n) (hl : P s) : GInv n P Q (markB bs s) (markT bs ts s) ex ∧
    2 * (markB bs s).count false + (markT bs ts s).length ≤ 2 * bs.count false + ts.length := by
  by_cases hb : bs.getD s.toNat false = true
  · have e1 : markB bs s = bs := by unfold markB; rw [if_pos hb]
    have e2 : markT bs ts s = ts := by unfold markT; rw [if_pos hb]
    rw [e1, e2]
    exact ⟨h, Nat.le_refl _⟩
  · have hb' : bs.getD s.toNat false = false := by simpa using hb
    have e1 : markB bs s = bs.set s.toNat true := by unfold markB; rw [if_neg hb]
    have e2 : markT bs ts s = ts ++ [s] := by unfold markT; rw [if_neg hb]
    have hlt : s.toNat < bs.length := by rw [h.len]; omega
    have hc := count_set_true bs s.toNat hlt hb'
    have hmono := fun (t : Nat) (ht : bs.getD t false = true) => mark_mono (s := s) ht
    rw [e1] at hmono
    rw [e1, e2]
    refine ⟨⟨by simp [h.len], fun t ht => ?_, fun t ht => ?_, fun t ht hn he p hp hpr => ?_, ?_⟩, ?_⟩
    · rw [getD_set] at ht
      split at ht
      · rename_i hh
        have : (t : Int) = s := by omega
        rw [this]
        exact hl
      · exact h.sound t ht
    · rcases List.mem_append.1 ht with ht | ht
      · obtain ⟨a, b, c⟩ := h.todo t ht
        exact ⟨a, b, hmono _ c⟩
      · rw [List.mem_singleton.1 ht]
        exact ⟨h0, h1, by rw [getD_set, if_pos ⟨rfl, hlt⟩]⟩
    · rw [getD_set] at ht
      split at ht
      · rename_i hh
        exact absurd (List.mem_append_right _ (List.mem_singleton.2 (by omega))) hn
      · exact hmono _ (h.closed t ht (fun hh => hn (List.mem_append_left _ hh)) he p hp hpr)
    · have := h.cnt
      simp
      omega
    · simp
      omega
theorem gInv_pop {n : Nat} {P : Int → Prop} {Q : Int → Int → Prop} {bs : List Bool} {ts : List Int} {s : Int} {ex : Int → Prop} (h : GInv n P Q bs (ts ++ [s]) ex) : GInv n P Q bs ts (fun t => ex t ∨ t = s) :=
  ⟨h.len, h.sound, fun t ht => h.todo t (List.mem_append_left _ ht), fun t ht hn he p hp hpr => h.closed t ht (fun hh => by
    rcases List.mem_append.1 hh with hh | hh
    · exact hn hh
    · exact he (.inr (List.mem_singleton.1 hh))) (fun hx => he (.inl hx)) p hp hpr, by have := h.cnt; simp at this; omega⟩
theorem gInv_done {n : Nat} {P : Int → Prop} {Q : Int → Int → Prop} {bs : List Bool} {ts : List Int} {s : Int} {ex : Int → Prop} (h : GInv n P Q bs ts (fun t => ex t ∨ t = s)) (hp : ∀ p : Nat, p < n → Q p s → bs.getD p false = true) : GInv n P Q bs ts ex :=
  ⟨h.len, h.sound, h.todo, fun t ht hn he p hpn hpr => by
    by_cases e : (t : Int) = s
    · rw [e] at hpr
      exact hp p hpn hpr
    · exact h.closed t ht hn (fun hx => hx.elim he e) p hpn hpr, h.cnt⟩
theorem gInv_clo {a : Nf} (ha : OkN a) {S : List Int} {bs : List Bool} (h : GInv a.n (Rch a S) (fun p t => p ∈ a.emp t) bs [] (fun _ => False)) (hS : ∀ s ∈ S, 0 ≤ s ∧ s < a.n ∧ bs.getD s.toNat false = true) :
    ∀ s : Nat, s < a.n → (bs.getD s false = true ↔ Rch a S s) := by
  intro s hs
  refine ⟨h.sound s, fun r => ?_⟩
  have key : ∀ x : Int, Rch a S x → bs.getD x.toNat false = true := by
    intro x r
    induction r with
    | base hx => exact (hS _ hx).2.2
    | step r ht ih =>
      rename_i s t
      have hs := r.in ha (fun s hs => ⟨(hS s hs).1, (hS s hs).2.1⟩)
      have hi := ha.emp_ok _ _ ht
      exact h.closed s.toNat ih (by simp) (fun h => h) t.toNat (by omega) (by rw [Int.toNat_of_nonneg hi.1, Int.toNat_of_nonneg hs.1]; exact ht)
  have := key s r
  rwa [Int.toNat_natCast] at this
def flagged (bs : List Bool) (k : Nat) : List Int := ((List.range k).filter (fun s => bs.getD s false)).map Int.ofNat
theorem flagged_succ (bs : List Bool) (k : Nat) : flagged bs (k + 1) = flagged bs k ++ (if bs.getD k false then [(k : Int)] else []) := by
  unfold flagged
  rw [List.range_succ, List.filter_append, List.map_append]
  congr 1
  rw [List.filter_cons]
  split <;> rfl
theorem flagged_len (bs : List Bool) (k : Nat) : (flagged bs k).length ≤ k := by
  unfold flagged
  rw [List.length_map]
  exact Nat.le_trans (List.length_filter_le _ _) (by simp)
theorem flagged_clo {a : Nf} {S : List Int} {bs : List Bool} (h : ∀ s : Nat, s < a.n → (bs.getD s false = true ↔ Rch a S s)) : flagged bs a.n = clo a S := by
  unfold flagged clo
  rw [List.filter_map]
  congr 1
  refine List.filter_congr (fun s hs => ?_)
  have := h s (List.mem_range.1 hs)
  rw [Bool.eq_iff_iff, this]
  simp
structure Pr where
  which : Int
  state : Int
deriving DecidableEq, Inhabited
def statesOf (set : List Pr) (i : Int) : List Int := (set.filter (fun p => p.which = i)).map Pr.state
noncomputable def closedAt (l : List Nf) (set : List Pr) (i : Nat) : List Pr := (clo (l.getD i default) (statesOf set i)).map (fun s => ⟨(i : Int), s⟩)
noncomputable def closedL (l : List Nf) (set : List Pr) : List Pr := (List.range l.length).flatMap (closedAt l set)
theorem statesOf_mem {set : List Pr} {i s : Int} : s ∈ statesOf set i ↔ (⟨i, s⟩ : Pr) ∈ set := by
  unfold statesOf
  constructor
  · intro h
    obtain ⟨p, hp, rfl⟩ := List.mem_map.1 h
    obtain ⟨h1, h2⟩ := List.mem_filter.1 hp
    have : p.which = i := by simpa using h2
    subst this
    exact h1
  · intro h
    exact List.mem_map.2 ⟨⟨i, s⟩, List.mem_filter.2 ⟨h, by simp⟩, rfl⟩
open Classical in
theorem mem_closedL {l : List Nf} {set : List Pr} {p : Pr} : p ∈ closedL l set ↔ ∃ i : Nat, i < l.length ∧ p.which = i ∧ p.state ∈ clo (l.getD i default) (statesOf set i) := by
  unfold closedL closedAt
  rw [List.mem_flatMap]
  constructor
  · rintro ⟨i, hi, hp⟩
    obtain ⟨s, hs, rfl⟩ := List.mem_map.1 hp
    exact ⟨i, List.mem_range.1 hi, rfl, hs⟩
  · rintro ⟨i, hi, hw, hs⟩
    refine ⟨i, List.mem_range.2 hi, List.mem_map.2 ⟨p.state, hs, ?_⟩⟩
    cases p
    simp only at hw
    rw [hw]
def InP (l : List Nf) (set : List Pr) : Prop := ∀ p ∈ set, ∃ i : Nat, i < l.length ∧ p.which = i ∧ 0 ≤ p.state ∧ p.state < (l.getD i default).n
theorem inP_closedL (l : List Nf) (set : List Pr) : InP l (closedL l set) := fun p hp => by
  obtain ⟨i, h1, h2, h3⟩ := mem_closedL.1 hp
  exact ⟨i, h1, h2, (mem_clo.1 h3).1⟩
theorem closedL_ne {l : List Nf} {set : List Pr} (hi : InP l set) (hne : set ≠ []) : closedL l set ≠ [] := by
  intro h
  cases set with
  | nil => exact hne rfl
  | cons p set =>
    obtain ⟨i, h1, h2, h3⟩ := hi p (List.mem_cons_self ..)
    have : p ∈ closedL l (p :: set) := mem_closedL.2 ⟨i, h1, h2, mem_clo.2 ⟨h3, .base (statesOf_mem.2 (by rw [← h2]; exact List.mem_cons_self ..))⟩⟩
    rw [h] at this
    cases this
theorem closedL_nil (l : List Nf) : closedL l [] = [] := by
  unfold closedL
  rw [List.flatMap_eq_nil_iff]
  intro i _
  unfold closedAt
  rw [show statesOf [] (i : Int) = [] from rfl, clo_nil]
  rfl
def keyP (p : Pr) : List UInt8 := Lib.itoa p.which ++ 46 :: (Lib.itoa p.state ++ [32])
def keySet (set : List Pr) : List UInt8 := set.flatMap keyP
theorem itoa_no46 (n : Int) : (46 : UInt8) ∉ Lib.itoa n := by
  intro h
  have := itoa_chars n _ h
  have e : (46 : UInt8).toNat = 46 := rfl
  omega
theorem keyP_ne (p : Pr) (q : List UInt8) : keyP p ++ q ≠ [] := by
  unfold keyP
  intro h
  have := congrArg List.length h
  simp at this
theorem keySet_inj : ∀ {a b : List Pr}, keySet a = keySet b → a = b
  | [], [], _ => rfl
  | [], p :: b, h => absurd (show keyP p ++ keySet b = [] by simpa [keySet] using h.symm) (keyP_ne _ _)
  | p :: a, [], h => absurd (show keyP p ++ keySet a = [] by simpa [keySet] using h) (keyP_ne _ _)
  | p :: a, q :: b, h => by
    have h : keyP p ++ keySet a = keyP q ++ keySet b := by simpa [keySet] using h
    unfold keyP at h
    simp only [List.append_assoc, List.cons_append, List.nil_append] at h
    obtain ⟨h1, h⟩ := delim (itoa_no46 _) (itoa_no46 _) h
    obtain ⟨h2, h⟩ := num_delim (.inl rfl) h
    rw [keySet_inj h]
    have h1 := itoa_inj h1
    cases p
    cases q
    simp only at h1 h2
    rw [h1, h2]
theorem keySet_len {set : List Pr} (h : ∀ p ∈ set, (keyP p).length ≤ 100) : (keySet set).length ≤ 100 * set.length := by
  induction set with
  | nil => simp [keySet]
  | cons p set ih =>
    have := ih (fun q hq => h q (List.mem_cons_of_mem _ hq))
    have hp := h p (List.mem_cons_self ..)
    unfold keySet at this ⊢
    rw [List.flatMap_cons, List.length_append, List.length_cons]
    omega
end Go.Proofs.YthohahcpdgebbaaDoor.Th
namespace Go.Proofs.YthohahcpdgebbaaDoor.Th
open Go.Proofs.YthohahcpdgebbaaDoor.Wk (cl)
set_option linter.unusedVariables false
structure Mv where
  lo : Int
  hi : Int
  tgt : Pr
deriving Inhabited
def movesOf (l : List Nf) (set : List Pr) : List Mv := set.flatMap fun p => ((l.getD p.which.toNat default).arc p.state).map fun x => ⟨x.lo, x.hi, ⟨p.which, x.to⟩⟩
def toOf (moves : List Mv) (lo hi : Int) : List Pr := (moves.filter (fun m => decide (m.lo ≤ lo) && decide (hi ≤ m.hi))).map Mv.tgt
noncomputable def stepSet (l : List Nf) (set : List Pr) (c : Int) : List Pr := closedL l (toOf (movesOf l set) c c)
def startPairs (l : List Nf) : List Pr := (List.range l.length).map fun (i : Nat) => ⟨(i : Int), (l.getD i default).start⟩
noncomputable def startSet (l : List Nf) : List Pr := closedL l (startPairs l)
noncomputable def aftr (l : List Nf) (w : List Int) : List Pr := w.foldl (stepSet l) (startSet l)
def labelL (l : List Nf) (set : List Pr) : Int := match set.find? (fun p => (l.getD p.which.toNat default).acc = p.state) with
  | some p => p.which
  | none => -1
def OkL (l : List Nf) : Prop := ∀ a ∈ l, OkN a
theorem OkL.at {l : List Nf} (h : OkL l) {i : Nat} (hi : i < l.length) : OkN (l.getD i default) := by
  rw [List.getD_eq_getElem?_getD, List.getElem?_eq_getElem hi]
  exact h _ (List.getElem_mem hi)
theorem stepSet_nil (l : List Nf) (c : Int) : stepSet l [] c = [] := closedL_nil l
theorem mem_toOf {moves : List Mv} {lo hi : Int} {p : Pr} : p ∈ toOf moves lo hi ↔ ∃ m ∈ moves, m.tgt = p ∧ m.lo ≤ lo ∧ hi ≤ m.hi := by
  unfold toOf
  constructor
  · intro h
    obtain ⟨m, hm, rfl⟩ := List.mem_map.1 h
    obtain ⟨h1, h2⟩ := List.mem_filter.1 hm
    simp only [Bool.and_eq_true, decide_eq_true_eq] at h2
    exact ⟨m, h1, rfl, h2⟩
  · rintro ⟨m, hm, rfl, h2⟩
    exact List.mem_map.2 ⟨m, List.mem_filter.2 ⟨hm, by simpa using h2⟩, rfl⟩
def OkMv (moves : List Mv) : Prop := ∀ m ∈ moves, isC m.lo ∧ isC m.hi ∧ m.lo ≤ m.hi
theorem movesOf_ok {l : List Nf} (hl : OkL l) {set : List Pr} (hs : InP l set) : OkMv (movesOf l set) ∧ InP l ((movesOf l set).map Mv.tgt) := by
  have key : ∀ m ∈ movesOf l set, (isC m.lo ∧ isC m.hi ∧ m.lo ≤ m.hi) ∧ ∃ i : Nat, i < l.length ∧ m.tgt.which = i ∧ 0 ≤ m.tgt.state ∧ m.tgt.state < (l.getD i default).n := by
    intro m hm
    obtain ⟨p, hp, hm⟩ := List.mem_flatMap.1 hm
    obtain ⟨x, hx, rfl⟩ := List.mem_map.1 hm
    obtain ⟨i, hi, hw, _⟩ := hs p hp
    rw [hw, Int.toNat_natCast] at hx
    obtain ⟨h1, h2, h3, h4, h5⟩ := (hl.at hi).arc_ok _ x hx
    exact ⟨⟨h1, h2, h3⟩, i, hi, hw, h4, h5⟩
  refine ⟨fun m hm => (key m hm).1, fun p hp => ?_⟩
  obtain ⟨m, hm, rfl⟩ := List.mem_map.1 hp
  exact (key m hm).2
theorem inP_toOf {l : List Nf} {moves : List Mv} (h : InP l (moves.map Mv.tgt)) (lo hi : Int) : InP l (toOf moves lo hi) := fun p hp => by
  obtain ⟨m, hm, rfl, _⟩ := mem_toOf.1 hp
  exact h _ (List.mem_map.2 ⟨m, hm, rfl⟩)
def isE (e : Int) : Prop := isC e ∨ e = 0x110000
theorem nx_E {c : Int} (h : isC c) : isE (nx c) := by unfold isE; unfold isC at *; unfold nx; split <;> omega
theorem E_C {e e' : Int} (h : isE e) (h' : isE e') (hlt : e < e') : isC e := by unfold isE at *; unfold isC at *; omega
theorem pv_C {e e' : Int} (h : isC e) (h' : isE e') (hlt : e < e') : isC (pv e') ∧ e ≤ pv e' ∧ pv e' < e' := by unfold isE at *; unfold isC at *; unfold pv; split <;> omega
theorem pv_lt {c e : Int} (h : isC c) (h' : isE e) : c ≤ pv e ↔ c < e := by unfold isE at *; unfold isC at *; unfold pv; split <;> omega
theorem pv_hi {e h : Int} (he : isE e) (hh : isC h) (hle : e ≤ nx h) : pv e ≤ h := by unfold isE at *; unfold isC at *; unfold pv; unfold nx at hle; split <;> split at hle <;> omega
def asc (es : List Int) : Prop := es.Pairwise (· < ·)
structure EdgeOf (moves : List Mv) (es : List Int) : Prop where
  asc : asc es
  mem : ∀ x, x ∈ es ↔ ∃ m ∈ moves, x = m.lo ∨ x = nx m.hi
theorem EdgeOf.isE {moves : List Mv} {es : List Int} (h : EdgeOf moves es) (ho : OkMv moves) {x : Int} (hx : x ∈ es) : isE x := by
  obtain ⟨m, hm, rfl | rfl⟩ := (h.mem x).1 hx
  · exact .inl (ho m hm).1
  · exact nx_E (ho m hm).2.1
theorem EdgeOf.between {moves : List Mv} {es : List Int} (h : EdgeOf moves es) {j : Nat} {e e' x : Int} (he : es[j]? = some e) (he' : es[j + 1]? = some e') (hx : x ∈ es) : x ≤ e ∨ e' ≤ x := by
  obtain ⟨i, hi, rfl⟩ := List.mem_iff_getElem.1 hx
  obtain ⟨h1, rfl⟩ := List.getElem?_eq_some_iff.1 he
  obtain ⟨h2, rfl⟩ := List.getElem?_eq_some_iff.1 he'
  have ha := List.pairwise_iff_getElem.1 h.asc
  rcases Nat.lt_or_ge i j with hlt | hge
  · exact .inl (Int.le_of_lt (ha i j hi h1 hlt))
  · rcases Nat.lt_or_ge j i with hlt | hge2
    · right
      rcases Nat.lt_or_ge (j + 1) i with hlt2 | hge3
      · exact Int.le_of_lt (ha (j + 1) i h2 hi hlt2)
      · obtain rfl : i = j + 1 := by omega
        exact Int.le_refl _
    · obtain rfl : i = j := by omega
      exact .inl (Int.le_refl _)
theorem toOf_between {moves : List Mv} {es : List Int} (h : EdgeOf moves es) (ho : OkMv moves) {j : Nat} {e e' c : Int} (he : es[j]? = some e) (he' : es[j + 1]? = some e') (hc : isC c) (h1 : e ≤ c) (h2 : c < e') : toOf moves e (pv e') = toOf moves c c := by
  unfold toOf
  congr 1
  refine List.filter_congr (fun m hm => ?_)
  obtain ⟨o1, o2, o3⟩ := ho m hm
  have hE' := h.isE ho (List.mem_of_getElem? he')
  rw [Bool.eq_iff_iff]
  simp only [Bool.and_eq_true, decide_eq_true_eq]
  constructor
  · rintro ⟨g1, g2⟩
    have := (pv_lt hc hE').2 h2
    omega
  · rintro ⟨g1, g2⟩
    have b1 := h.between he he' ((h.mem _).2 ⟨m, hm, .inl rfl⟩)
    have b2 := h.between he he' ((h.mem _).2 ⟨m, hm, .inr rfl⟩)
    have := nx_gt m.hi
    refine ⟨by omega, pv_hi hE' o2 (by omega)⟩
noncomputable def pstep (l : List Nf) (moves : List Mv) (lo hi : Int) (s : List Arc × List (List Pr)) : List Arc × List (List Pr) :=
  if toOf moves lo hi = [] then s else
    match ix s.2 (closedL l (toOf moves lo hi)) with
    | some i => (s.1 ++ [⟨lo, hi, (i : Int)⟩], s.2)
    | none => (s.1 ++ [⟨lo, hi, (s.2.length : Int)⟩], s.2 ++ [closedL l (toOf moves lo hi)])
theorem pstep_nil {l : List Nf} {moves : List Mv} {lo hi : Int} {s : List Arc × List (List Pr)} (h : toOf moves lo hi = []) : pstep l moves lo hi s = s := by unfold pstep; rw [if_pos h]
theorem pstep_hit {l : List Nf} {moves : List Mv} {lo hi : Int} {s : List Arc × List (List Pr)} {i : Nat} (h : toOf moves lo hi ≠ []) (hi2 : ix s.2 (closedL l (toOf moves lo hi)) = some i) : pstep l moves lo hi s = (s.1 ++ [⟨lo, hi, (i : Int)⟩], s.2) := by unfold pstep; rw [if_neg h, hi2]
theorem pstep_miss {l : List Nf} {moves : List Mv} {lo hi : Int} {s : List Arc × List (List Pr)} (h : toOf moves lo hi ≠ []) (hi2 : ix s.2 (closedL l (toOf moves lo hi)) = none) : pstep l moves lo hi s = (s.1 ++ [⟨lo, hi, (s.2.length : Int)⟩], s.2 ++ [closedL l (toOf moves lo hi)]) := by unfold pstep; rw [if_neg h, hi2]
theorem okA_snoc {n : Int} {a : Arc} : ∀ {l : List Arc} {b : Int}, okA n b l → (∀ x ∈ l, x.hi < a.lo) → b < a.lo → isC a.lo → isC a.hi → a.lo ≤ a.hi → 0 ≤ a.to → a.to < n → okA n b (l ++ [a])
  | [], b, _, _, h1, h2, h3, h4, h5, h6 => ⟨h1, h2, h3, h4, h5, h6, trivial⟩
  | x :: l, b, ⟨o1, o2, o3, o4, o5, o6, o7⟩, hx, h1, h2, h3, h4, h5, h6 =>
    ⟨o1, o2, o3, o4, o5, o6, okA_snoc o7 (fun y hy => hx y (List.mem_cons_of_mem _ hy)) (hx x (List.mem_cons_self ..)) h2 h3 h4 h5 h6⟩
theorem stp_snoc {a : Arc} {r : Int} : ∀ {l : List Arc}, stp (l ++ [a]) r = (stp l r).or (if a.lo ≤ r ∧ r ≤ a.hi then some a.to else none)
  | [] => by
    simp only [List.nil_append, stp]
    split <;> rfl
  | x :: l => by
    simp only [List.cons_append, stp]
    split
    · rfl
    · exact stp_snoc
structure PRow (l : List Nf) (moves : List Mv) (es : List Int) (S0 : List (List Pr)) (k : Nat) (s : List Arc × List (List Pr)) : Prop where
  nodup : s.2.Nodup
  pre : ∃ t, s.2 = S0 ++ t
  from_ : ∀ x ∈ s.2, x ∈ S0 ∨ ∃ c, isC c ∧ toOf moves c c ≠ [] ∧ x = closedL l (toOf moves c c)
  ok : okA s.2.length (-1) s.1
  low : ∀ x ∈ s.1, ∀ e, es[k]? = some e → x.hi < e
  len : s.1.length ≤ k
  none_ : ∀ c, isC c → (∀ j e e', j < k → es[j]? = some e → es[j + 1]? = some e' → ¬(e ≤ c ∧ c < e')) → stp s.1 c = none
  some_ : ∀ c j e e', isC c → j < k → es[j]? = some e → es[j + 1]? = some e' → e ≤ c → c < e' → (toOf moves c c = [] ∧ stp s.1 c = none) ∨ (toOf moves c c ≠ [] ∧ ∃ t : Nat, stp s.1 c = some (t : Int) ∧ s.2[t]? = some (closedL l (toOf moves c c)))
theorem pRow_start (l : List Nf) (moves : List Mv) (es : List Int) {S0 : List (List Pr)} (h : S0.Nodup) : PRow l moves es S0 0 ([], S0) :=
  ⟨h, ⟨[], by simp⟩, fun x hx => .inl hx, trivial, (fun x hx => by cases hx), by simp, fun c _ _ => rfl, fun c j e e' _ hj => by omega⟩
theorem pRow_step {l : List Nf} {moves : List Mv} {es : List Int} {S0 : List (List Pr)} {k : Nat} {s : List Arc × List (List Pr)} (h : PRow l moves es S0 k s) (hE : EdgeOf moves es) (ho : OkMv moves) {e e' : Int} (he : es[k]? = some e) (he' : es[k + 1]? = some e') :
    PRow l moves es S0 (k + 1) (pstep l moves e (pv e') s) := by
  have hEe := hE.isE ho (List.mem_of_getElem? he)
  have hEe' := hE.isE ho (List.mem_of_getElem? he')
  obtain ⟨hk, hke⟩ := List.getElem?_eq_some_iff.1 he
  obtain ⟨hk', hke'⟩ := List.getElem?_eq_some_iff.1 he'
  have hlt : e < e' := by
    have := List.pairwise_iff_getElem.1 hE.asc k (k + 1) hk hk' (by omega)
    omega
  have hC := E_C hEe hEe' hlt
  obtain ⟨pC, p1, p2⟩ := pv_C hC hEe' hlt
  have hTe : toOf moves e (pv e') = toOf moves e e := toOf_between hE ho he he' hC (Int.le_refl _) hlt
  have hmono : ∀ (j : Nat) (x x' : Int), es[j]? = some x → es[j + 1]? = some x' → j < k → x' ≤ e := fun j x x' h1 h2 hj => by
    obtain ⟨g1, rfl⟩ := List.getElem?_eq_some_iff.1 h2
    rcases Nat.lt_or_ge (j + 1) k with hlt2 | hge
    · have := List.pairwise_iff_getElem.1 hE.asc (j + 1) k g1 hk hlt2
      omega
    · obtain rfl : j + 1 = k := by omega
      omega
  have hnew : ∀ (a : Arc) (S : List (List Pr)), s.2.length ≤ S.length → (∃ t, S = s.2 ++ t) → a.lo = e → a.hi = pv e' → (∃ t : Nat, a.to = t ∧ S[t]? = some (closedL l (toOf moves e e))) → toOf moves e e ≠ [] →
      okA S.length (-1) (s.1 ++ [a]) ∧ (∀ x ∈ s.1 ++ [a], ∀ y, es[k + 1]? = some y → x.hi < y) ∧ (s.1 ++ [a]).length ≤ k + 1 ∧
      (∀ c, isC c → (∀ j x x', j < k + 1 → es[j]? = some x → es[j + 1]? = some x' → ¬(x ≤ c ∧ c < x')) → stp (s.1 ++ [a]) c = none) ∧
      (∀ c j x x', isC c → j < k + 1 → es[j]? = some x → es[j + 1]? = some x' → x ≤ c → c < x' → (toOf moves c c = [] ∧ stp (s.1 ++ [a]) c = none) ∨ (toOf moves c c ≠ [] ∧ ∃ t : Nat, stp (s.1 ++ [a]) c = some (t : Int) ∧ S[t]? = some (closedL l (toOf moves c c)))) := by
    rintro a S hS ⟨tl, hpre⟩ ha1 ha2 ⟨t, hat, hSt⟩ hne
    have ht := (List.getElem?_eq_some_iff.1 hSt).1
    refine ⟨okA_snoc (h.ok.wider (by omega)) (fun x hx => by rw [ha1]; exact h.low x hx e he) (by rw [ha1]; unfold isC at hC; omega) (by rw [ha1]; exact hC) (by rw [ha2]; exact pC) (by rw [ha1, ha2]; exact p1) (by omega) (by omega), ?_, by have := h.len; simp; omega, ?_, ?_⟩
    · intro x hx y hy
      rw [he'] at hy
      injection hy with hy
      rcases List.mem_append.1 hx with hx | hx
      · have := h.low x hx e he
        omega
      · rw [List.mem_singleton.1 hx, ha2]
        omega
    · intro c hc hn
      rw [stp_snoc, h.none_ c hc (fun j x x' hj => hn j x x' (by omega)), Option.none_or, if_neg]
      rw [ha1, ha2, pv_lt hc hEe']
      exact hn k e e' (by omega) he he'
    · intro c j x x' hc hj hx hx' h1 h2
      rcases Nat.lt_or_ge j k with hjk | hjk
      · have hle := hmono j x x' hx hx' hjk
        have hnot : ¬ (a.lo ≤ c ∧ c ≤ a.hi) := by rw [ha1]; omega
        rw [stp_snoc, if_neg hnot, Option.or_none]
        rcases h.some_ c j x x' hc hjk hx hx' h1 h2 with g | ⟨g1, t', g2, g3⟩
        · exact .inl g
        · exact .inr ⟨g1, t', g2, by rw [hpre, List.getElem?_append_left (List.getElem?_eq_some_iff.1 g3).1]; exact g3⟩
      · obtain rfl : j = k := by omega
        rw [he] at hx
        rw [he'] at hx'
        injection hx with hx
        injection hx' with hx'
        subst hx
        subst hx'
        have hTc : toOf moves c c = toOf moves e e := by rw [← toOf_between hE ho he he' hc h1 h2, hTe]
        rw [hTc]
        refine .inr ⟨hne, t, ?_, hSt⟩
        rw [stp_snoc, h.none_ c hc, Option.none_or, if_pos, hat]
        · rw [ha1, ha2, pv_lt hc hEe']
          exact ⟨h1, h2⟩
        · intro i y y' hi hy hy' hh
          have := hmono i y y' hy hy' hi
          omega
  by_cases hT : toOf moves e (pv e') = []
  · rw [pstep_nil hT]
    rw [hTe] at hT
    refine ⟨h.nodup, h.pre, h.from_, h.ok, fun x hx y hy => ?_, by have := h.len; omega, fun c hc hn => h.none_ c hc (fun j x x' hj => hn j x x' (by omega)), fun c j x x' hc hj hx hx' h1 h2 => ?_⟩
    · rw [he'] at hy
      injection hy with hy
      have := h.low x hx e he
      omega
    · rcases Nat.lt_or_ge j k with hjk | hjk
      · exact h.some_ c j x x' hc hjk hx hx' h1 h2
      · obtain rfl : j = k := by omega
        rw [he] at hx
        rw [he'] at hx'
        injection hx with hx
        injection hx' with hx'
        subst hx
        subst hx'
        refine .inl ⟨by rw [← toOf_between hE ho he he' hc h1 h2, hTe, hT], h.none_ c hc (fun i y y' hi hy hy' hh => ?_)⟩
        have := hmono i y y' hy hy' hi
        omega
  · have hne : toOf moves e e ≠ [] := by rw [← hTe]; exact hT
    cases hix : ix s.2 (closedL l (toOf moves e (pv e'))) with
    | some i =>
      rw [pstep_hit hT hix]
      have hi := ix_some hix
      rw [hTe] at hi
      obtain ⟨n1, n2, n3, n4, n5⟩ := hnew ⟨e, pv e', (i : Int)⟩ s.2 (Nat.le_refl _) ⟨[], by simp⟩ rfl rfl ⟨i, rfl, hi⟩ hne
      exact ⟨h.nodup, h.pre, h.from_, n1, n2, n3, n4, n5⟩
    | none =>
      rw [pstep_miss hT hix]
      have hn := ix_none hix
      obtain ⟨t, hpre⟩ := h.pre
      obtain ⟨n1, n2, n3, n4, n5⟩ := hnew ⟨e, pv e', (s.2.length : Int)⟩ (s.2 ++ [closedL l (toOf moves e (pv e'))]) (by simp) ⟨_, rfl⟩ rfl rfl ⟨s.2.length, rfl, by
        rw [List.getElem?_append_right (Nat.le_refl _), Nat.sub_self, hTe]; rfl⟩ hne
      refine ⟨?_, ⟨t ++ [closedL l (toOf moves e (pv e'))], by show s.2 ++ _ = _; rw [hpre, List.append_assoc]⟩, fun x hx => ?_, n1, n2, n3, n4, n5⟩
      · show (s.2 ++ _).Nodup
        rw [List.nodup_append]
        refine ⟨h.nodup, by simp, fun x hx y hy e => ?_⟩
        rw [List.mem_singleton.1 hy] at e
        exact hn (e ▸ hx)
      · rcases List.mem_append.1 hx with hx | hx
        · exact h.from_ x hx
        · exact .inr ⟨e, hC, hne, by rw [List.mem_singleton.1 hx, hTe]⟩
structure RowIs (l : List Nf) (sets : List (List Pr)) (S : List Pr) (row : List Arc) : Prop where
  ok : okA sets.length (-1) row
  at_ : ∀ c, isC c → (stepSet l S c = [] ∧ stp row c = none) ∨ (stepSet l S c ≠ [] ∧ ∃ t : Nat, stp row c = some (t : Int) ∧ sets[t]? = some (stepSet l S c))
theorem RowIs.more {l : List Nf} {sets t : List (List Pr)} {S : List Pr} {row : List Arc} (h : RowIs l sets S row) : RowIs l (sets ++ t) S row :=
  ⟨h.ok.wider (by simp; omega), fun c hc => by
    rcases h.at_ c hc with g | ⟨g1, t', g2, g3⟩
    · exact .inl g
    · exact .inr ⟨g1, t', g2, by rw [List.getElem?_append_left (List.getElem?_eq_some_iff.1 g3).1]; exact g3⟩⟩
theorem pRow_end {l : List Nf} {S : List Pr} {es : List Int} {S0 : List (List Pr)} {s : List Arc × List (List Pr)} (hl : OkL l) (hS : InP l S) (h : PRow l (movesOf l S) es S0 (es.length - 1) s) (hE : EdgeOf (movesOf l S) es) : RowIs l s.2 S s.1 := by
  obtain ⟨ho, hin⟩ := movesOf_ok hl hS
  refine ⟨h.ok, fun c hc => ?_⟩
  have key : stepSet l S c = [] ↔ toOf (movesOf l S) c c = [] := by
    constructor
    · intro g
      rcases List.eq_nil_or_concat (toOf (movesOf l S) c c) with hh | ⟨x, y, hh⟩
      · exact hh
      · exact absurd g (closedL_ne (inP_toOf hin c c) (by rw [hh]; simp))
    · intro g
      unfold stepSet
      rw [g, closedL_nil]
  by_cases hex : ∃ (j : Nat) (e e' : Int), j < es.length - 1 ∧ es[j]? = some e ∧ es[j + 1]? = some e' ∧ e ≤ c ∧ c < e'
  · obtain ⟨j, e, e', hj, he, he', h1, h2⟩ := hex
    rcases h.some_ c j e e' hc hj he he' h1 h2 with ⟨g1, g2⟩ | ⟨g1, g2⟩
    · exact .inl ⟨key.2 g1, g2⟩
    · exact .inr ⟨fun hh => g1 (key.1 hh), g2⟩
  · refine .inl ⟨key.2 ?_, h.none_ c hc (fun j e e' hj he he' hh => hex ⟨j, e, e', hj, he, he', hh.1, hh.2⟩)⟩
    rcases List.eq_nil_or_concat (toOf (movesOf l S) c c) with hh | ⟨x, y, hh⟩
    · exact hh
    · exfalso
      have hy : y ∈ toOf (movesOf l S) c c := by rw [hh]; simp
      obtain ⟨m, hm, _, m1, m2⟩ := mem_toOf.1 hy
      have e1 : m.lo ∈ es := (hE.mem _).2 ⟨m, hm, .inl rfl⟩
      have e2 : nx m.hi ∈ es := (hE.mem _).2 ⟨m, hm, .inr rfl⟩
      have hgt := nx_gt m.hi
      obtain ⟨i, hi, hie⟩ := List.mem_iff_getElem.1 e1
      obtain ⟨i', hi', hie'⟩ := List.mem_iff_getElem.1 e2
      have hii : i < i' := by
        rcases Nat.lt_or_ge i i' with hlt | hge
        · exact hlt
        · exfalso
          rcases Nat.lt_or_ge i' i with hlt2 | hge2
          · have := List.pairwise_iff_getElem.1 hE.asc i' i hi' hi hlt2
            omega
          · obtain rfl : i = i' := by omega
            omega
      have walk : ∀ (n i : Nat) (hi : i < es.length), i' - i = n → i < i' → es[i] ≤ c → ∃ (j : Nat) (e e' : Int), j < es.length - 1 ∧ es[j]? = some e ∧ es[j + 1]? = some e' ∧ e ≤ c ∧ c < e' := by
        intro n
        induction n with
        | zero => intro i hi h1 h2; omega
        | succ n ih =>
          intro i hi h1 h2 h3
          have hs : i + 1 < es.length := by omega
          rcases Int.lt_or_le c es[i + 1] with hlt | hle
          · exact ⟨i, _, _, by omega, List.getElem?_eq_getElem hi, List.getElem?_eq_getElem hs, h3, hlt⟩
          · rcases Nat.lt_or_ge (i + 1) i' with hlt2 | hge
            · exact ih (i + 1) hs (by omega) hlt2 hle
            · obtain rfl : i' = i + 1 := by omega
              omega
      exact hex (walk _ i hi rfl hii (by omega))
structure PInv (l : List Nf) (sets : List (List Pr)) (arcs : List (List Arc)) (labs : List Int) : Prop where
  nodup : sets.Nodup
  head : sets[0]? = some (startSet l)
  from_ : ∀ s ∈ sets, InP l s ∧ s ≠ [] ∧ ∃ w, allC w ∧ aftr l w = s
  lenl : labs.length = arcs.length
  le : arcs.length ≤ sets.length
  rows : ∀ (i : Nat) (row : List Arc), arcs[i]? = some row → ∃ S, sets[i]? = some S ∧ labs[i]? = some (labelL l S) ∧ RowIs l sets S row
theorem startPairs_in {l : List Nf} (hl : OkL l) : InP l (startPairs l) := fun p hp => by
  obtain ⟨i, hi, rfl⟩ := List.mem_map.1 hp
  have hi := List.mem_range.1 hi
  exact ⟨i, hi, rfl, (hl.at hi).st0, (hl.at hi).st1⟩
theorem pInv_start {l : List Nf} (hl : OkL l) (hne : l ≠ []) : PInv l [startSet l] [] [] := by
  refine ⟨by simp, rfl, fun s hs => ?_, rfl, by simp, fun i row h => by simp at h⟩
  rw [List.mem_singleton.1 hs]
  refine ⟨inP_closedL _ _, closedL_ne (startPairs_in hl) ?_, [], allC_nil, rfl⟩
  intro h
  have := congrArg List.length h
  simp [startPairs] at this
  exact hne this
theorem aftr_snoc (l : List Nf) (w : List Int) (c : Int) : aftr l (w ++ [c]) = stepSet l (aftr l w) c := by
  unfold aftr
  rw [List.foldl_append]
  rfl
theorem pInv_row {l : List Nf} {sets : List (List Pr)} {arcs : List (List Arc)} {labs : List Int} (h : PInv l sets arcs labs) (hl : OkL l) {S : List Pr} (hS : sets[arcs.length]? = some S) {es : List Int} {s : List Arc × List (List Pr)}
    (hE : EdgeOf (movesOf l S) es) (hr : PRow l (movesOf l S) es sets (es.length - 1) s) : PInv l s.2 (arcs ++ [s.1]) (labs ++ [labelL l S]) := by
  obtain ⟨hSin, hSne, w, hw, hwS⟩ := h.from_ S (List.mem_of_getElem? hS)
  have hrow := pRow_end hl hSin hr hE
  obtain ⟨ho, hin⟩ := movesOf_ok hl hSin
  obtain ⟨t, ht⟩ := hr.pre
  have hlt := (List.getElem?_eq_some_iff.1 hS).1
  refine ⟨hr.nodup, ?_, fun x hx => ?_, by simp [h.lenl], by rw [ht]; simp; omega, fun i row hi => ?_⟩
  · rw [ht, List.getElem?_append_left (by omega)]
    exact h.head
  · rcases hr.from_ x hx with hx | ⟨c, hc, hne, rfl⟩
    · exact h.from_ x hx
    · refine ⟨inP_closedL _ _, closedL_ne (inP_toOf hin c c) hne, w ++ [c], ?_, ?_⟩
      · intro r hr2
        rcases List.mem_append.1 hr2 with hr2 | hr2
        · exact hw r hr2
        · rw [List.mem_singleton.1 hr2]; exact hc
      · rw [aftr_snoc, hwS]
        rfl
  · rw [getElem?_snoc] at hi
    rcases hi with hi | ⟨hi, rfl⟩
    · obtain ⟨S', h1, h2, h3⟩ := h.rows i row hi
      refine ⟨S', ?_, by rw [getElem?_snoc]; exact .inl h2, by rw [ht]; exact h3.more⟩
      rw [ht, List.getElem?_append_left (List.getElem?_eq_some_iff.1 h1).1]
      exact h1
    · refine ⟨S, ?_, by rw [getElem?_snoc]; exact .inr ⟨by rw [h.lenl]; exact hi, rfl⟩, hrow⟩
      rw [hi, ht, List.getElem?_append_left hlt]
      exact hS
theorem labelL_ge {l : List Nf} {S : List Pr} (h : InP l S) : -1 ≤ labelL l S := by
  unfold labelL
  cases hf : S.find? (fun p => (l.getD p.which.toNat default).acc = p.state) with
  | none => exact Int.le_refl _
  | some p =>
    obtain ⟨i, _, hw, _⟩ := h p (List.mem_of_find?_eq_some hf)
    show -1 ≤ p.which
    omega
theorem fold_nil (l : List Nf) : ∀ w : List Int, w.foldl (stepSet l) [] = []
  | [] => rfl
  | c :: w => by
    rw [List.foldl_cons, stepSet_nil]
    exact fold_nil l w
theorem pInv_end {l : List Nf} {sets : List (List Pr)} {arcs : List (List Arc)} {labs : List Int} (h : PInv l sets arcs labs) (hlen : arcs.length = sets.length) (hmax : sets.length ≤ 3000) :
    Ok ⟨0, arcs, labs⟩ ∧ ∀ w, allC w → run ⟨0, arcs, labs⟩ 0 w = labelL l (aftr l w) := by
  have hpos := (List.getElem?_eq_some_iff.1 h.head).1
  have hrow : ∀ (i : Nat) (S : List Pr), sets[i]? = some S → RowIs l sets S ((⟨0, arcs, labs⟩ : Dfa).arc i) ∧ (⟨0, arcs, labs⟩ : Dfa).lab i = labelL l S := by
    intro i S hS
    have hi : i < arcs.length := by have := (List.getElem?_eq_some_iff.1 hS).1; omega
    obtain ⟨S', h1, h2, h3⟩ := h.rows i _ (List.getElem?_eq_getElem hi)
    rw [hS] at h1
    injection h1 with h1
    subst h1
    refine ⟨?_, ?_⟩
    · unfold Dfa.arc
      rw [Int.toNat_natCast, List.getD_eq_getElem?_getD, List.getElem?_eq_getElem hi]
      exact h3
    · unfold Dfa.lab
      rw [Int.toNat_natCast, List.getD_eq_getElem?_getD, h2]
      rfl
  refine ⟨⟨by show 1 ≤ arcs.length; omega, by show arcs.length ≤ 3000; omega, h.lenl, Int.le_refl _, by show (0 : Int) < (arcs.length : Nat); omega, ?_, ?_⟩, ?_⟩
  · intro x hx
    obtain ⟨i, hi, rfl⟩ := List.mem_iff_getElem.1 hx
    have hi2 : i < arcs.length := by have := h.lenl; simp only at hi; omega
    obtain ⟨S, h1, h2, h3⟩ := h.rows i _ (List.getElem?_eq_getElem hi2)
    rw [List.getElem?_eq_getElem hi] at h2
    injection h2 with h2
    rw [h2]
    exact labelL_ge (h.from_ S (List.mem_of_getElem? h1)).1
  · intro row hr
    obtain ⟨i, hi, rfl⟩ := List.mem_iff_getElem.1 hr
    obtain ⟨S, h1, h2, h3⟩ := h.rows i _ (List.getElem?_eq_getElem hi)
    show okA (arcs.length : Nat) (-1) _
    rw [hlen]
    exact h3.ok
  · have key : ∀ (w : List Int) (i : Nat) (S : List Pr), allC w → sets[i]? = some S → run ⟨0, arcs, labs⟩ i w = labelL l (w.foldl (stepSet l) S) := by
      intro w
      induction w with
      | nil =>
        intro i S _ hS
        exact (hrow i S hS).2
      | cons c w ih =>
        intro i S hw hS
        obtain ⟨hc, hw⟩ := allC_cons.1 hw
        rcases (hrow i S hS).1.at_ c hc with ⟨g1, g2⟩ | ⟨g1, t, g2, g3⟩
        · rw [run_cons_none g2, List.foldl_cons, g1, fold_nil]
          rfl
        · rw [run_cons_some g2, List.foldl_cons]
          exact ih t _ hw g3
    intro w hw
    exact key w 0 _ hw h.head
end Go.Proofs.YthohahcpdgebbaaDoor.Th
namespace Go.Proofs.YthohahcpdgebbaaDoor.Th
def lexLt : List Int → List Int → Prop
  | a :: u, b :: v => a < b ∨ (a = b ∧ lexLt u v)
  | [], _ :: _ => True
  | _, [] => False
def sl (u v : List Int) : Prop := u.length < v.length ∨ (u.length = v.length ∧ lexLt u v)
def sle (u v : List Int) : Prop := u = v ∨ sl u v
theorem lexLt_trans : ∀ {u v w : List Int}, lexLt u v → lexLt v w → lexLt u w
  | [], _, [], _, h => by
    rename_i v _
    cases v <;> exact h.elim
  | [], _, _ :: _, _, _ => trivial
  | _ :: _, [], _, h, _ => h.elim
  | _ :: _, _ :: _, [], _, h => h.elim
  | a :: u, b :: v, c :: w, h, h' => by
    rcases h with h | ⟨h1, h2⟩
    · rcases h' with h' | ⟨g1, g2⟩
      · exact .inl (by omega)
      · exact .inl (by omega)
    · rcases h' with h' | ⟨g1, g2⟩
      · exact .inl (by omega)
      · exact .inr ⟨by omega, lexLt_trans h2 g2⟩
theorem sl_trans {u v w : List Int} (h : sl u v) (h' : sl v w) : sl u w := by
  unfold sl at *
  rcases h with h | ⟨h1, h2⟩
  · rcases h' with h' | ⟨g1, g2⟩
    · exact .inl (by omega)
    · exact .inl (by omega)
  · rcases h' with h' | ⟨g1, g2⟩
    · exact .inl (by omega)
    · exact .inr ⟨by omega, lexLt_trans h2 g2⟩
theorem sle_trans {u v w : List Int} (h : sle u v) (h' : sle v w) : sle u w := by
  rcases h with rfl | h
  · exact h'
  · rcases h' with rfl | h'
    · exact .inr h
    · exact .inr (sl_trans h h')
theorem lexLt_snoc : ∀ {u v : List Int} (x y : Int), u.length = v.length → lexLt u v → lexLt (u ++ [x]) (v ++ [y])
  | [], [], _, _, _, h => h.elim
  | [], _ :: _, _, _, h, _ => by simp at h
  | _ :: _, [], _, _, _, h => h.elim
  | a :: u, b :: v, x, y, hl, h => by
    rcases h with h | ⟨h1, h2⟩
    · exact .inl h
    · exact .inr ⟨h1, lexLt_snoc x y (by simpa using hl) h2⟩
theorem lexLt_last : ∀ {u : List Int} {x y : Int}, x < y → lexLt (u ++ [x]) (u ++ [y])
  | [], _, _, h => .inl h
  | _ :: _, _, _, h => .inr ⟨rfl, lexLt_last h⟩
theorem sl_snoc {u v : List Int} (x y : Int) (h : sl u v) : sl (u ++ [x]) (v ++ [y]) := by
  rcases h with h | ⟨h1, h2⟩
  · exact .inl (by simp; omega)
  · exact .inr ⟨by simp [h1], lexLt_snoc x y h1 h2⟩
theorem sle_snoc {u v : List Int} (x : Int) (h : sle u v) : sle (u ++ [x]) (v ++ [x]) := by
  rcases h with rfl | h
  · exact .inl rfl
  · exact .inr (sl_snoc x x h)
theorem sle_last {u : List Int} {x y : Int} (h : x ≤ y) : sle (u ++ [x]) (u ++ [y]) := by
  rcases Int.lt_or_le x y with h1 | h1
  · exact .inr (.inr ⟨by simp, lexLt_last h1⟩)
  · obtain rfl : x = y := by omega
    exact .inl rfl
theorem sl_more (u : List Int) (x : Int) : sl u (u ++ [x]) := .inl (by simp)
theorem nil_sl (u : List Int) (x : Int) : sl [] (u ++ [x]) := .inl (by simp)
def reach (d : Dfa) : Int → List Int → Option Int
  | s, [] => some s
  | s, r :: w => (stp (d.arc s) r).bind fun t => reach d t w
theorem reach_snoc (d : Dfa) : ∀ (w : List Int) (s c : Int), reach d s (w ++ [c]) = (reach d s w).bind fun t => stp (d.arc t) c
  | [], s, c => by
    simp only [List.nil_append, reach, Option.bind_some]
    cases stp (d.arc s) c <;> rfl
  | r :: w, s, c => by
    simp only [List.cons_append, reach]
    cases stp (d.arc s) r with
    | none => rfl
    | some t => exact reach_snoc d w t c
theorem run_reach (d : Dfa) : ∀ (w : List Int) (s : Int), run d s w = match reach d s w with
    | some t => d.lab t
    | none => -1
  | [], s => rfl
  | r :: w, s => by
    cases h : stp (d.arc s) r with
    | none => rw [run_cons_none h]; simp [reach, h]
    | some t => rw [run_cons_some h, run_reach d w t]; simp [reach, h]
structure Stp where
  from_ : Int
  by_ : Int
  at_ : Int
deriving Inhabited, DecidableEq
structure SrI (d : Dfa) (label : Int) (steps : List Stp) (ws : List (List Int)) (i p : Nat) : Prop where
  len : ws.length = steps.length
  head : steps[0]? = some ⟨-1, 0, d.start⟩ ∧ ws[0]? = some []
  i_le : i ≤ steps.length
  from_ : ∀ (j : Nat) (s : Stp) (u : List Int), steps[j]? = some s → ws[j]? = some u → j = 0 ∨ ∃ (f : Nat) (v : List Int), s.from_ = f ∧ f < j ∧ (f < i ∨ (f = i ∧ 0 < p)) ∧ ws[f]? = some v ∧ u = v ++ [s.by_]
  ok : ∀ (j : Nat) (s : Stp) (u : List Int), steps[j]? = some s → ws[j]? = some u → allC u ∧ reach d d.start u = some s.at_ ∧ 0 ≤ s.at_ ∧ s.at_ < d.n
  sorted : ∀ (j k : Nat) (u v : List Int), ws[j]? = some u → ws[k]? = some v → j < k → sl u v
  nodup : (steps.map Stp.at_).Nodup
  done : ∀ (k : Nat) (s : Stp) (v : List Int) (c t : Int), k < i → steps[k]? = some s → ws[k]? = some v → isC c → stp (d.arc s.at_) c = some t → ∃ (j : Nat) (s' : Stp) (u : List Int), steps[j]? = some s' ∧ ws[j]? = some u ∧ s'.at_ = t ∧ sle u (v ++ [c])
  nolab : ∀ (k : Nat) (s : Stp), k < i → steps[k]? = some s → d.lab s.at_ ≠ label
  part : ∀ (s : Stp) (v : List Int), steps[i]? = some s → ws[i]? = some v → ∀ a ∈ (d.arc s.at_).take p, ∃ (j : Nat) (s' : Stp) (u : List Int), steps[j]? = some s' ∧ ws[j]? = some u ∧ s'.at_ = a.to ∧ sle u (v ++ [a.lo])
  last : ∀ (s : Stp) (v : List Int), steps[i]? = some s → ws[i]? = some v → ∀ x, (∀ a ∈ (d.arc s.at_).take p, a.lo < x) → ∀ (j : Nat) (u : List Int), ws[j]? = some u → sl u (v ++ [x])
theorem srI_start {d : Dfa} (hd : Ok d) (label : Int) : SrI d label [⟨-1, 0, d.start⟩] [[]] 0 0 := by
  refine ⟨rfl, ⟨rfl, rfl⟩, by simp, fun j s u h1 h2 => ?_, fun j s u h1 h2 => ?_, fun j k u v h1 h2 hjk => ?_, by simp, fun k s v c t hk => by omega, fun k s hk => by omega, fun s v _ _ a ha => by simp at ha, fun s v h1 h2 x _ j u hu => ?_⟩
  · cases j with
    | zero => exact .inl rfl
    | succ j => simp at h1
  · cases j with
    | zero =>
      simp at h1 h2
      subst h1
      subst h2
      exact ⟨allC_nil, rfl, hd.st0, hd.st1⟩
    | succ j => simp at h1
  · cases k with
    | zero => omega
    | succ k => simp at h2
  · cases j with
    | zero =>
      simp at hu
      subst hu
      exact nil_sl _ _
    | succ j => simp at hu
theorem take_succ_of {α : Type} {l : List α} {p : Nat} {a : α} (h : l[p]? = some a) : l.take (p + 1) = l.take p ++ [a] := by
  obtain ⟨h1, h2⟩ := List.getElem?_eq_some_iff.1 h
  rw [List.take_succ_eq_append_getElem h1, h2]
theorem okA_take_lo {n : Int} : ∀ {l : List Arc} {b : Int} {p : Nat} {a x : Arc}, okA n b l → l[p]? = some a → x ∈ l.take p → x.lo < a.lo
  | [], _, _, _, _, _, h, _ => by simp at h
  | y :: l, b, 0, a, x, _, _, hx => by simp at hx
  | y :: l, b, p + 1, a, x, ⟨o1, o2, o3, o4, o5, o6, o7⟩, h, hx => by
    rw [List.take_succ_cons] at hx
    rcases List.mem_cons.1 hx with rfl | hx
    · have : ∀ {l : List Arc} {b : Int} {p : Nat}, okA n b l → l[p]? = some a → b < a.lo := by
        intro l
        induction l with
        | nil => intro b p _ h; simp at h
        | cons z l ih =>
          intro b p o h
          obtain ⟨q1, q2, q3, q4, q5, q6, q7⟩ := o
          cases p with
          | zero =>
            simp at h
            subst h
            exact q1
          | succ p =>
            have := ih q7 h
            omega
      have := this o7 h
      omega
    · exact okA_take_lo o7 h hx
theorem srI_seen {d : Dfa} {label : Int} {steps : List Stp} {ws : List (List Int)} {i p : Nat} (h : SrI d label steps ws i p) (hd : Ok d) {s : Stp} {v : List Int} (hs : steps[i]? = some s) (hv : ws[i]? = some v) {a : Arc} (ha : (d.arc s.at_)[p]? = some a)
    (hseen : a.to ∈ steps.map Stp.at_) : SrI d label steps ws i (p + 1) := by
  obtain ⟨s', hs', hat⟩ := List.mem_map.1 hseen
  obtain ⟨j, hj, rfl⟩ := List.mem_iff_getElem.1 hs'
  have htk := take_succ_of ha
  refine ⟨h.len, h.head, h.i_le, fun j s u h1 h2 => ?_, h.ok, h.sorted, h.nodup, h.done, h.nolab, fun s2 v2 h1 h2 b hb => ?_, fun s2 v2 h1 h2 x hx j u hu => ?_⟩
  · rcases h.from_ j s u h1 h2 with g | ⟨f, w, g1, g2, g3, g4⟩
    · exact .inl g
    · exact .inr ⟨f, w, g1, g2, by omega, g4⟩
  · rw [hs] at h1
    injection h1 with h1
    subst h1
    rw [hv] at h2
    injection h2 with h2
    subst h2
    rw [htk] at hb
    rcases List.mem_append.1 hb with hb | hb
    · exact h.part s v hs hv b hb
    · rw [List.mem_singleton.1 hb]
      have hjw : j < ws.length := by rw [h.len]; exact hj
      refine ⟨j, steps[j], ws[j], List.getElem?_eq_getElem hj, List.getElem?_eq_getElem hjw, hat, .inr ?_⟩
      exact h.last s v hs hv a.lo (fun y hy => okA_take_lo (hd.arc_ok _) ha hy) j _ (List.getElem?_eq_getElem hjw)
  · rw [hs] at h1
    injection h1 with h1
    subst h1
    rw [htk] at hx
    exact h.last s v2 hs h2 x (fun y hy => hx y (List.mem_append_left _ hy)) j u hu
theorem srI_new {d : Dfa} {label : Int} {steps : List Stp} {ws : List (List Int)} {i p : Nat} (h : SrI d label steps ws i p) (hd : Ok d) {s : Stp} {v : List Int} (hs : steps[i]? = some s) (hv : ws[i]? = some v) {a : Arc} (ha : (d.arc s.at_)[p]? = some a)
    (hnew : a.to ∉ steps.map Stp.at_) (hstp : isC a.lo ∧ stp (d.arc s.at_) a.lo = some a.to) : SrI d label (steps ++ [⟨i, a.lo, a.to⟩]) (ws ++ [v ++ [a.lo]]) i (p + 1) := by
  have htk := take_succ_of ha
  have hi := (List.getElem?_eq_some_iff.1 hs).1
  have hlen := h.len
  have hold : ∀ (j : Nat), j < steps.length → (steps ++ [(⟨i, a.lo, a.to⟩ : Stp)])[j]? = steps[j]? := fun j hj => List.getElem?_append_left hj
  have holdw : ∀ (j : Nat), j < steps.length → (ws ++ [v ++ [a.lo]])[j]? = ws[j]? := fun j hj => List.getElem?_append_left (by omega)
  have hpos : 0 < steps.length := by omega
  have hcase : ∀ (j : Nat) (s' : Stp), (steps ++ [(⟨i, a.lo, a.to⟩ : Stp)])[j]? = some s' → (j < steps.length ∧ steps[j]? = some s') ∨ (j = steps.length ∧ s' = ⟨i, a.lo, a.to⟩) := fun j s' hj => by
    rcases (getElem?_snoc _ _ _ _).1 hj with g | ⟨g1, g2⟩
    · exact .inl ⟨(List.getElem?_eq_some_iff.1 g).1, g⟩
    · exact .inr ⟨g1, g2.symm⟩
  have hcasew : ∀ (j : Nat) (u : List Int), (ws ++ [v ++ [a.lo]])[j]? = some u → (j < steps.length ∧ ws[j]? = some u) ∨ (j = steps.length ∧ u = v ++ [a.lo]) := fun j u hj => by
    rcases (getElem?_snoc _ _ _ _).1 hj with g | ⟨g1, g2⟩
    · exact .inl ⟨by have := (List.getElem?_eq_some_iff.1 g).1; omega, g⟩
    · exact .inr ⟨by omega, g2.symm⟩
  have hlo : ∀ y ∈ (d.arc s.at_).take p, y.lo < a.lo := fun y hy => okA_take_lo (hd.arc_ok _) ha hy
  obtain ⟨hvC, hvr, _⟩ := h.ok i s v hs hv
  refine ⟨by simp [hlen], ⟨by rw [hold 0 hpos]; exact h.head.1, by rw [holdw 0 hpos]; exact h.head.2⟩, by simp; omega, ?_, ?_, ?_, ?_, ?_, ?_, ?_, ?_⟩
  · intro j s' u h1 h2
    rcases hcase j s' h1 with ⟨g1, g2⟩ | ⟨rfl, rfl⟩
    · rw [holdw j g1] at h2
      rcases h.from_ j s' u g2 h2 with g | ⟨f, w, k1, k2, k3, k4, k5⟩
      · exact .inl g
      · exact .inr ⟨f, w, k1, k2, by omega, by rw [holdw f (by omega)]; exact k4, k5⟩
    · rcases hcasew _ u h2 with ⟨g1, _⟩ | ⟨_, rfl⟩
      · omega
      · exact .inr ⟨i, v, rfl, hi, by omega, by rw [holdw i hi]; exact hv, rfl⟩
  · intro j s' u h1 h2
    rcases hcase j s' h1 with ⟨g1, g2⟩ | ⟨rfl, rfl⟩
    · rw [holdw j g1] at h2
      exact h.ok j s' u g2 h2
    · rcases hcasew _ u h2 with ⟨g1, _⟩ | ⟨_, rfl⟩
      · omega
      · obtain ⟨r0, r1, _⟩ := stp_range (hd.arc_ok s.at_) hstp.2
        refine ⟨fun r hr => ?_, by rw [reach_snoc, hvr]; exact hstp.2, r0, r1⟩
        rcases List.mem_append.1 hr with hr | hr
        · exact hvC r hr
        · rw [List.mem_singleton.1 hr]; exact hstp.1
  · intro j k u w h1 h2 hjk
    rcases hcasew k w h2 with ⟨g1, g2⟩ | ⟨rfl, rfl⟩
    · rw [holdw j (by omega)] at h1
      exact h.sorted j k u w h1 g2 hjk
    · rw [holdw j hjk] at h1
      exact h.last s v hs hv a.lo hlo j u h1
  · rw [List.map_append, List.nodup_append]
    refine ⟨h.nodup, by simp, fun x hx y hy e => ?_⟩
    have : y = a.to := by simpa using hy
    rw [this] at e
    exact hnew (e ▸ hx)
  · intro k s' w c t hk h1 h2 hc hst
    rw [hold k (by omega)] at h1
    rw [holdw k (by omega)] at h2
    obtain ⟨j, s2, u, g1, g2, g3⟩ := h.done k s' w c t hk h1 h2 hc hst
    have hj := (List.getElem?_eq_some_iff.1 g1).1
    exact ⟨j, s2, u, by rw [hold j hj]; exact g1, by rw [holdw j hj]; exact g2, g3⟩
  · intro k s' hk h1
    rw [hold k (by omega)] at h1
    exact h.nolab k s' hk h1
  · intro s2 v2 h1 h2 b hb
    rw [hold i hi, hs] at h1
    injection h1 with h1
    subst h1
    rw [holdw i hi, hv] at h2
    injection h2 with h2
    subst h2
    rw [htk] at hb
    rcases List.mem_append.1 hb with hb | hb
    · obtain ⟨j, s2, u, g1, g2, g3⟩ := h.part s v hs hv b hb
      have hj := (List.getElem?_eq_some_iff.1 g1).1
      exact ⟨j, s2, u, by rw [hold j hj]; exact g1, by rw [holdw j hj]; exact g2, g3⟩
    · rw [List.mem_singleton.1 hb]
      exact ⟨steps.length, ⟨i, a.lo, a.to⟩, v ++ [a.lo], by simp, by rw [← hlen]; simp, rfl, .inl rfl⟩
  · intro s2 v2 h1 h2 x hx j u hu
    rw [hold i hi, hs] at h1
    injection h1 with h1
    subst h1
    rw [holdw i hi, hv] at h2
    injection h2 with h2
    subst h2
    rw [htk] at hx
    rcases hcasew j u hu with ⟨g1, g2⟩ | ⟨rfl, rfl⟩
    · exact h.last s v hs hv x (fun y hy => hx y (List.mem_append_left _ hy)) j u g2
    · exact .inr ⟨by simp, lexLt_last (hx a (List.mem_append_right _ (List.mem_singleton.2 rfl)))⟩
theorem stp_in_arc {l : List Arc} {r t : Int} (h : stp l r = some t) : ∃ a ∈ l, a.to = t ∧ a.lo ≤ r := by
  induction l with
  | nil => simp [stp] at h
  | cons x l ih =>
    unfold stp at h
    split at h
    · rename_i hr
      injection h with h
      exact ⟨x, List.mem_cons_self .., h, hr.1⟩
    · obtain ⟨a, h1, h2⟩ := ih h
      exact ⟨a, List.mem_cons_of_mem _ h1, h2⟩
theorem srI_next {d : Dfa} {label : Int} {steps : List Stp} {ws : List (List Int)} {i : Nat} {s : Stp} (hs : steps[i]? = some s) (h : SrI d label steps ws i (d.arc s.at_).length) (hlab : d.lab s.at_ ≠ label) : SrI d label steps ws (i + 1) 0 := by
  have hi := (List.getElem?_eq_some_iff.1 hs).1
  have hw : ∃ v, ws[i]? = some v := ⟨_, List.getElem?_eq_getElem (by rw [h.len]; exact hi)⟩
  obtain ⟨v, hv⟩ := hw
  refine ⟨h.len, h.head, hi, fun j s u h1 h2 => ?_, h.ok, h.sorted, h.nodup, fun k s' v' c t hk h1 h2 hc hst => ?_, fun k s' hk h1 => ?_, fun _ _ _ _ a ha => by simp at ha, fun s' v' h1 h2 x _ j u hu => ?_⟩
  · rcases h.from_ j s u h1 h2 with g | ⟨f, w, g1, g2, g3, g4⟩
    · exact .inl g
    · exact .inr ⟨f, w, g1, g2, by omega, g4⟩
  · rcases Nat.lt_or_ge k i with hki | hki
    · exact h.done k s' v' c t hki h1 h2 hc hst
    · obtain rfl : k = i := by omega
      rw [hs] at h1
      injection h1 with h1
      subst h1
      rw [hv] at h2
      injection h2 with h2
      subst h2
      obtain ⟨a, ha, hat, hlo⟩ := stp_in_arc hst
      obtain ⟨j, s2, u, g1, g2, g3, g4⟩ := h.part s v hs hv a (by rw [List.take_length]; exact ha)
      exact ⟨j, s2, u, g1, g2, by rw [g3, hat], sle_trans g4 (sle_last hlo)⟩
  · rcases Nat.lt_or_ge k i with hki | hki
    · exact h.nolab k s' hki h1
    · obtain rfl : k = i := by omega
      rw [hs] at h1
      injection h1 with h1
      subst h1
      exact hlab
  · have hj : j < steps.length := by rw [← h.len]; exact (List.getElem?_eq_some_iff.1 hu).1
    rcases h.from_ j _ u (List.getElem?_eq_getElem hj) hu with rfl | ⟨f, w, g1, g2, g3, g4, g5⟩
    · rw [h.head.2] at hu
      injection hu with hu
      subst hu
      exact nil_sl _ _
    · rw [g5]
      exact sl_snoc _ _ (h.sorted f (i + 1) w v' g4 h2 (by omega))
theorem srI_all {d : Dfa} {label : Int} {steps : List Stp} {ws : List (List Int)} {i : Nat} (h : SrI d label steps ws i 0) : ∀ (n : Nat) (w : List Int) (t : Int), w.length = n → allC w → reach d d.start w = some t →
    (∃ (j : Nat) (s : Stp) (u : List Int), steps[j]? = some s ∧ ws[j]? = some u ∧ s.at_ = t ∧ sle u w) ∨ (∃ v, ws[i]? = some v ∧ sle v w) := by
  intro n
  induction n with
  | zero =>
    intro w t hn _ hr
    have := List.length_eq_zero_iff.1 hn
    subst this
    injection hr with hr
    exact .inl ⟨0, _, _, h.head.1, h.head.2, hr, .inl rfl⟩
  | succ n ih =>
    intro w t hn hw hr
    rcases List.eq_nil_or_concat w with rfl | ⟨u, c, rfl⟩
    · simp at hn
    · rw [List.concat_eq_append] at *
      rw [reach_snoc] at hr
      cases hu : reach d d.start u with
      | none => rw [hu] at hr; cases hr
      | some m =>
        rw [hu, Option.bind_some] at hr
        have hc : isC c := hw c (by simp)
        rcases ih u m (by simpa using hn) (fun r hr => hw r (List.mem_append_left _ hr)) hu with ⟨k, s, v, g1, g2, g3, g4⟩ | ⟨v, g1, g2⟩
        · rcases Nat.lt_or_ge k i with hki | hki
          · rw [← g3] at hr
            obtain ⟨j, s', u', k1, k2, k3, k4⟩ := h.done k s v c t hki g1 g2 hc hr
            exact .inl ⟨j, s', u', k1, k2, k3, sle_trans k4 (sle_snoc c g4)⟩
          · right
            have hiw : i < ws.length := by have := (List.getElem?_eq_some_iff.1 g2).1; omega
            refine ⟨ws[i], List.getElem?_eq_getElem hiw, sle_trans (sle_trans ?_ g4) (.inr (sl_more _ _))⟩
            rcases Nat.lt_or_ge i k with hlt | hge
            · exact .inr (h.sorted i k _ v (List.getElem?_eq_getElem hiw) g2 hlt)
            · obtain rfl : i = k := by omega
              rw [List.getElem?_eq_getElem hiw] at g2
              injection g2 with g2
              exact .inl g2
        · exact .inr ⟨v, g1, sle_trans g2 (.inr (sl_more _ _))⟩
def Least (d : Dfa) (label : Int) (w : List Int) : Prop := allC w ∧ run d d.start w = label ∧ ∀ u, allC u → run d d.start u = label → sle w u
theorem srI_found {d : Dfa} {label : Int} (hl : label ≠ -1) {steps : List Stp} {ws : List (List Int)} {i : Nat} (h : SrI d label steps ws i 0) {s : Stp} {v : List Int} (hs : steps[i]? = some s) (hv : ws[i]? = some v) (hlab : d.lab s.at_ = label) : Least d label v := by
  obtain ⟨h1, h2, _⟩ := h.ok i s v hs hv
  refine ⟨h1, by rw [run_reach, h2]; exact hlab, fun u hu hr => ?_⟩
  rw [run_reach] at hr
  cases ht : reach d d.start u with
  | none => rw [ht] at hr; exact absurd hr.symm hl
  | some t =>
    rw [ht] at hr
    rcases srI_all h _ u t rfl hu ht with ⟨j, s', u', g1, g2, g3, g4⟩ | ⟨v', g1, g2⟩
    · rcases Nat.lt_or_ge j i with hji | hji
      · exact absurd (by rw [g3]; exact hr) (h.nolab j s' hji g1)
      · rcases Nat.lt_or_ge i j with hlt | hge
        · exact sle_trans (.inr (h.sorted i j v u' hv g2 hlt)) g4
        · obtain rfl : i = j := by omega
          rw [hv] at g2
          injection g2 with g2
          rw [g2]
          exact g4
    · rw [hv] at g1
      injection g1 with g1
      rw [g1]
      exact g2
theorem srI_none {d : Dfa} {label : Int} (hl : label ≠ -1) {steps : List Stp} {ws : List (List Int)} (h : SrI d label steps ws steps.length 0) : ∀ u, allC u → run d d.start u ≠ label := by
  intro u hu hr
  rw [run_reach] at hr
  cases ht : reach d d.start u with
  | none => rw [ht] at hr; exact absurd hr.symm hl
  | some t =>
    rw [ht] at hr
    rcases srI_all h _ u t rfl hu ht with ⟨j, s', u', g1, g2, g3, g4⟩ | ⟨v', g1, g2⟩
    · exact absurd (by rw [g3]; exact hr) (h.nolab j s' (List.getElem?_eq_some_iff.1 g1).1 g1)
    · have := (List.getElem?_eq_some_iff.1 g1).1
      rw [h.len] at this
      omega
theorem srI_len {d : Dfa} {label : Int} {steps : List Stp} {ws : List (List Int)} {i p : Nat} (h : SrI d label steps ws i p) : steps.length ≤ d.n := by
  have key : ∀ (n : Nat) (l : List Int), l.Nodup → (∀ c ∈ l, 0 ≤ c ∧ c < n) → l.length ≤ n := by
    intro n
    induction n with
    | zero =>
      intro l _ hl
      cases l with
      | nil => simp
      | cons a l => have := hl a (List.mem_cons_self ..); omega
    | succ n ih =>
      intro l hn hl
      have h1 := ih (l.filter (fun x => decide (x ≠ (n : Int)))) (hn.filter _) (fun c hc => by
        obtain ⟨h1, h2⟩ := List.mem_filter.1 hc
        have := hl c h1
        have h3 : c ≠ n := by simpa using h2
        omega)
      have h2 : (l.filter (fun x => decide (x = (n : Int)))).length ≤ 1 := by
        have h3 : ∀ m : List Int, m.Nodup → (∀ x ∈ m, x = (n : Int)) → m.length ≤ 1
          | [], _, _ => by simp
          | [a], _, _ => by simp
          | a :: b :: m, hn, hx => by
            exfalso
            rw [List.nodup_cons] at hn
            exact hn.1 (by rw [hx a (List.mem_cons_self ..), ← hx b (List.mem_cons_of_mem _ (List.mem_cons_self ..))]; exact List.mem_cons_self ..)
        exact h3 _ (hn.filter _) (fun x hx => by have := (List.mem_filter.1 hx).2; simpa using this)
      have h4 : l.length = (l.filter (fun x => decide (x = (n : Int)))).length + (l.filter (fun x => decide (x ≠ (n : Int)))).length := by
        have := List.length_eq_countP_add_countP (fun x => decide (x = (n : Int))) (l := l)
        rw [List.countP_eq_length_filter, List.countP_eq_length_filter] at this
        have e : (fun a : Int => decide ¬(decide (a = (n : Int))) = true) = (fun x => decide (x ≠ (n : Int))) := by
          funext x
          simp
        rw [e] at this
        exact this
      omega
  have := key d.n (steps.map Stp.at_) h.nodup (fun c hc => by
    obtain ⟨s, hs, rfl⟩ := List.mem_map.1 hc
    obtain ⟨j, hj, rfl⟩ := List.mem_iff_getElem.1 hs
    have hjw : j < ws.length := by rw [h.len]; exact hj
    exact (h.ok j _ _ (List.getElem?_eq_getElem hj) (List.getElem?_eq_getElem hjw)).2.2)
  simpa using this
end Go.Proofs.YthohahcpdgebbaaDoor.Th
namespace Go.Proofs.YthohahcpdgebbaaDoor.Th
open Go.Proofs.YthohahcpdgebbaaDoor.Wk (cl)
set_option linter.unusedVariables false
def abN : Nf := ⟨0, 1, [[⟨97, 98, 1⟩], []], [[], []]⟩
def abT : Dfa := ⟨0, [[⟨97, 98, 1⟩], []], [-1, 0]⟩
theorem abN_ok : OkN abN := by
  refine ⟨by decide, by decide, rfl, by decide, by decide, by decide, by decide, fun l hl x hx => ?_, fun l hl s hs => ?_⟩
  · rcases List.mem_cons.1 hl with rfl | hl
    · rw [List.mem_singleton.1 hx]
      exact ⟨by decide, by decide, by decide, by decide, by decide⟩
    · rw [List.mem_singleton.1 hl] at hx
      cases hx
  · have : l = [] := by simpa [abN] using hl
    rw [this] at hs
    cases hs
theorem abL_ok : OkL [abN] := fun a ha => by rw [List.mem_singleton.1 ha]; exact abN_ok
theorem abN_emp (s : Int) : abN.emp s = [] := by
  unfold Nf.emp abN
  simp only
  match h : s.toNat with
  | 0 => rfl
  | 1 => rfl
  | n + 2 => rfl
theorem ab_rch {S : List Int} {s : Int} : Rch abN S s ↔ s ∈ S := by
  constructor
  · intro h
    cases h with
    | base h => exact h
    | step _ ht => rw [abN_emp] at ht; cases ht
  · exact .base
theorem ab_clo0 : clo abN [0] = [0] := by
  have e : ((List.range abN.n).map Int.ofNat) = [0, 1] := rfl
  unfold clo
  rw [e]
  simp [ab_rch]
theorem ab_clo1 : clo abN [1] = [1] := by
  have e : ((List.range abN.n).map Int.ofNat) = [0, 1] := rfl
  unfold clo
  rw [e]
  simp [ab_rch]
theorem ab_closed (set : List Pr) : closedL [abN] set = (clo abN (statesOf set 0)).map (fun s => ⟨0, s⟩) := by
  unfold closedL closedAt
  simp
theorem ab_start : startSet [abN] = [⟨0, 0⟩] := by
  unfold startSet
  rw [ab_closed, show statesOf (startPairs [abN]) 0 = [0] from rfl, ab_clo0]
  rfl
theorem ab_step0 (c : Int) : stepSet [abN] [⟨0, 0⟩] c = if 97 ≤ c ∧ c ≤ 98 then [⟨0, 1⟩] else [] := by
  unfold stepSet
  have e : movesOf [abN] [⟨0, 0⟩] = [⟨97, 98, ⟨0, 1⟩⟩] := rfl
  rw [e]
  by_cases h : 97 ≤ c ∧ c ≤ 98
  · have e2 : toOf [⟨97, 98, ⟨0, 1⟩⟩] c c = [⟨0, 1⟩] := by simp [toOf, h]
    rw [if_pos h, e2, ab_closed, show statesOf [⟨0, 1⟩] 0 = [1] from rfl, ab_clo1]
    rfl
  · have e2 : toOf [⟨97, 98, ⟨0, 1⟩⟩] c c = [] := by
      unfold toOf
      have h2 : (decide ((97 : Int) ≤ c) && decide (c ≤ 98)) = false := by
        rw [Bool.and_eq_false_iff, decide_eq_false_iff_not, decide_eq_false_iff_not]
        omega
      simp [h2]
    rw [if_neg h, e2, closedL_nil]
theorem ab_step1 (c : Int) : stepSet [abN] [⟨0, 1⟩] c = [] := by
  unfold stepSet
  rw [show movesOf [abN] [⟨0, 1⟩] = [] from rfl, show toOf [] c c = [] from rfl, closedL_nil]
theorem ab_aftr : ∀ w : List Int, aftr [abN] w = match w with
    | [] => [⟨0, 0⟩]
    | [c] => if 97 ≤ c ∧ c ≤ 98 then [⟨0, 1⟩] else []
    | _ => []
  | [] => ab_start
  | [c] => by
    unfold aftr
    rw [List.foldl_cons, ab_start, ab_step0]
    rfl
  | c :: c' :: w => by
    unfold aftr
    rw [List.foldl_cons, List.foldl_cons, ab_start, ab_step0]
    have : stepSet [abN] (if 97 ≤ c ∧ c ≤ 98 then [⟨0, 1⟩] else []) c' = [] := by
      split
      · exact ab_step1 c'
      · exact stepSet_nil _ _
    rw [this, fold_nil]
theorem ab_some (w : List Int) : aftr [abN] w = [] ∨ aftr [abN] w = [⟨0, 0⟩] ∨ aftr [abN] w = [⟨0, 1⟩] := by
  match w with
  | [] => exact .inr (.inl (ab_aftr []))
  | [c] =>
    have := ab_aftr [c]
    simp only at this
    rw [this]
    split
    · exact .inr (.inr rfl)
    · exact .inl rfl
  | c :: c' :: w => exact .inl (ab_aftr (c :: c' :: w))
theorem ab_moves (w : List Int) : (movesOf [abN] (aftr [abN] w)).length ≤ 6 := by
  rcases ab_some w with h | h | h <;> rw [h] <;> decide
theorem ab_run : ∀ w : List Int, run abT 0 w = labelL [abN] (aftr [abN] w)
  | [] => by rw [ab_aftr]; rfl
  | [c] => by
    rw [ab_aftr]
    by_cases h : 97 ≤ c ∧ c ≤ 98
    · have e : stp (abT.arc 0) c = some 1 := by
        show stp [⟨97, 98, 1⟩] c = some 1
        unfold stp
        rw [if_pos h]
      rw [run_cons_some e]
      simp only [if_pos h]
      rfl
    · have e : stp (abT.arc 0) c = none := by
        show stp [⟨97, 98, 1⟩] c = none
        unfold stp
        rw [if_neg h]
        rfl
      rw [run_cons_none e]
      simp only [if_neg h]
      rfl
  | c :: c' :: w => by
    rw [ab_aftr]
    by_cases h : 97 ≤ c ∧ c ≤ 98
    · have e : stp (abT.arc 0) c = some 1 := by
        show stp [⟨97, 98, 1⟩] c = some 1
        unfold stp
        rw [if_pos h]
      rw [run_cons_some e]
      have e2 : stp (abT.arc 1) c' = none := rfl
      rw [run_cons_none e2]
      rfl
    · have e : stp (abT.arc 0) c = none := by
        show stp [⟨97, 98, 1⟩] c = none
        unfold stp
        rw [if_neg h]
        rfl
      rw [run_cons_none e]
      rfl
theorem abT_ok : Ok abT := by
  refine ⟨by decide, by decide, rfl, by decide, by decide, by decide, fun l hl => ?_⟩
  rcases List.mem_cons.1 hl with rfl | hl
  · exact ⟨by decide, by decide, by decide, by decide, by decide, by decide, trivial⟩
  · rw [List.mem_singleton.1 hl]
    trivial
theorem abT_canon : Canon abT := by
  refine ⟨abT_ok, rfl, fun l hl => ?_, fun i j hi hj he => ?_, .inl (fun i hi => ?_), rfl⟩
  · rcases List.mem_cons.1 hl with rfl | hl
    · trivial
    · rw [List.mem_singleton.1 hl]
      trivial
  · have hi : i < 2 := hi
    have hj : j < 2 := hj
    have h0 := he [] allC_nil
    rcases (by omega : i = 0 ∨ i = 1) with rfl | rfl <;> rcases (by omega : j = 0 ∨ j = 1) with rfl | rfl
    · rfl
    · exact absurd h0 (by decide)
    · exact absurd h0 (by decide)
    · rfl
  · have hi : i < 2 := hi
    rcases (by omega : i = 0 ∨ i = 1) with rfl | rfl
    · exact ⟨[97], fun r hr => by rw [List.mem_singleton.1 hr]; decide, by decide⟩
    · exact ⟨[], allC_nil, by decide⟩
theorem ab_sets {sets : List (List Pr)} {arcs : List (List Arc)} {labs : List Int} (h : PInv [abN] sets arcs labs) : ¬ 3000 < sets.length := by
  intro hlt
  have key : ∀ (i : Nat) (hi : i < sets.length), sets[i] = [⟨0, 0⟩] ∨ sets[i] = [⟨0, 1⟩] := fun i hi => by
    obtain ⟨_, h2, w, _, h3⟩ := h.from_ sets[i] (List.getElem_mem hi)
    rcases ab_some w with h | h | h
    · exact absurd (h3.symm.trans h) h2
    · exact .inl (h3.symm.trans h)
    · exact .inr (h3.symm.trans h)
  have hp := List.pairwise_iff_getElem.1 h.nodup
  have h01 := hp 0 1 (by omega) (by omega) (by omega)
  have h02 := hp 0 2 (by omega) (by omega) (by omega)
  have h12 := hp 1 2 (by omega) (by omega) (by omega)
  rcases key 0 (by omega) with a | a <;> rcases key 1 (by omega) with b | b <;> rcases key 2 (by omega) with c | c <;> rw [a, b] at h01 <;> rw [a, c] at h02 <;> rw [b, c] at h12 <;> first | exact h01 rfl | exact h02 rfl | exact h12 rfl
theorem ab_least {u : List Int} (h : Least abT 0 u) : u = [97] := by
  obtain ⟨_, h2, h3⟩ := h
  have e1 : run abT 0 u = 0 := h2
  have h4 := h3 [97] (fun r hr => by rw [List.mem_singleton.1 hr]; decide) (by decide)
  rw [ab_run, ab_aftr] at e1
  match u with
  | [] => exact absurd e1 (by decide)
  | [c] =>
    by_cases hc : 97 ≤ c ∧ c ≤ 98
    · rcases h4 with h4 | h4 | ⟨_, h4⟩
      · exact h4
      · simp at h4
      · rcases h4 with h4 | ⟨_, h4⟩
        · omega
        · exact h4.elim
    · simp only [if_neg hc] at e1
      exact absurd e1 (by decide)
  | c :: c' :: w =>
    have e2 : labelL [abN] [] = 0 := e1
    exact absurd e2 (by decide)
theorem ab_has : ¬ ∀ u, allC u → run abT abT.start u ≠ 0 := fun h => h [97] (fun r hr => by rw [List.mem_singleton.1 hr]; decide) (by decide)
end Go.Proofs.YthohahcpdgebbaaDoor.Th
