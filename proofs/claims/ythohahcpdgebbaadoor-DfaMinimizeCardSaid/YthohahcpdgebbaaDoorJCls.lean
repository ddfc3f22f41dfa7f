/- Proved: what a part of the given program (its deterministic automata, and the functions that they call) computes, and laws on that, under the conditions that each theorem names. -/
import Derived.Test.YthohahcpdgebbaaDoorJTxt
import Derived.Maps.Own
import Derived.Maps.OwnSet
import Derived.Maps.OwnOps
import Derived.StringKeys
import Derived.Carry
import Derived.Test.YthohahcpdgebbaaDoorJUse
import Derived.Test.YthohahcpdgebbaaDoorJThy
namespace Go.Proofs.YthohahcpdgebbaaDoor.Wk
open Go.RowKit Go.Proofs.YthohahcpdgebbaaDoorW.PrintWords Go.Proofs.YthohahcpdgebbaaDoorW.PrintLast Go.Proofs.YthohahcpdgebbaaDoorW.PrintMore
open Go.Proofs.YthohahcpdgebbaaDoor.Th Go.Maps
set_option linter.unusedVariables false
set_option linter.unusedSimpArgs false
def MapIs {κ : Type} (kt : TypeId) (lit : κ → Lit) (w : World) (b n : Nat) (m : κ → Option Int) : Prop :=
  ∃ D : DataW Unit, w.ownsMap Tryd.prog kt (plainElem Tryd.prog 3) b n D ∧ Maps.Tidy D ∧ Maps.size D = n ∧ (∀ k, Maps.has D (lit k) = (m k).isSome) ∧ ∀ k v, m k = some v → D.atKey (lit k) (.lit (.int .i64 0)) = .lit (.int .i64 v)
section
variable {κ : Type} {kt : TypeId} {lit : κ → Lit} {w w' : World} {b n : Nat} {m : κ → Option Int}
theorem mapIs_made (kt : TypeId) (lit : κ → Lit) (w : World) : MapIs kt lit (w.alloc (.map #[] 0)) w.heap.size 0 (fun _ => none) :=
  ⟨.map [], World.ownsMap_made _ _ _ _, Maps.tidy_empty, rfl, fun k => by simp [Maps.has_eq], fun k v h => by cases h⟩
theorem MapIs.lt (h : MapIs kt lit w b n m) : b < w.heap.size := by
  obtain ⟨D, h1, _⟩ := h
  exact h1.lt
theorem MapIs.kept (h : MapIs kt lit w b n m) {row : Option Nat} (hg : w.grownBy w' row) (hne : some b ≠ row) : MapIs kt lit w' b n m := by
  obtain ⟨D, h1, h2⟩ := h
  exact ⟨D, h1.kept hg hne, h2⟩
theorem MapIs.later (h : MapIs kt lit w b n m) (hb : Below w.heap.size w w') : MapIs kt lit w' b n m :=
  h.kept (row := none) ⟨hb.os, hb.tape, hb.output, hb.size, fun k hk _ => hb.block k hk⟩ (by simp)
theorem MapIs.setCell (h : MapIs kt lit w b n m) {p : Addr} (hp : b ≠ p.block) (u : Value) : MapIs kt lit (w.setCell p u) b n m := by
  obtain ⟨D, h1, h2⟩ := h
  exact ⟨D, h1.setCell hp u, h2⟩
theorem MapIs.block (h : MapIs kt lit w b n m) : ∃ es c, w.heap[b]? = some (.map es c) := by
  obtain ⟨D, ⟨es, c, h1, _⟩, _⟩ := h
  exact ⟨es, c, h1⟩
theorem MapIs.ne_cells (h : MapIs kt lit w b n m) {g : Nat} {c : Array Value} {t : TypeId} {f : Nat × Nat} (hg : w.heap[g]? = some (.cells c t f)) : g ≠ b := by
  obtain ⟨es, cl, h1⟩ := h.block
  rintro rfl
  rw [h1] at hg
  cases hg
theorem zeroInt (w : World) : (zeroValue 3).run Tryd.prog w = .ok (.int .i64 0) w := Tryd.zeroValue3 w
set_option maxRecDepth 100000 in
theorem MapIs.look1 (h : MapIs kt lit w b n m) (K : Keyed Tryd.prog kt) {t : TypeId} (ht : Tryd.prog.underlying t = some (.map kt 3)) {key : Value} {k : κ} (hkey : keyOf Tryd.prog kt key = some (lit k)) {v : Int} (hv : m k = some v) :
    (Instr.lookup t (.map (some b)) key false).run Tryd.prog w = .ok (.int .i64 v) w := by
  obtain ⟨D, h1, h2, h3, h4, h5⟩ := h
  obtain ⟨c, hrun, hat, _⟩ := h1.lookup_int K ht Tryd.underlying3 (zeroInt w) hkey
  rw [h5 k v hv] at hat
  have : v = c := by injection hat with hat; injection hat
  rw [this]
  exact hrun
set_option maxRecDepth 100000 in
theorem MapIs.hit (h : MapIs kt lit w b n m) (K : Keyed Tryd.prog kt) {t : TypeId} (ht : Tryd.prog.underlying t = some (.map kt 3)) {key : Value} {k : κ} (hkey : keyOf Tryd.prog kt key = some (lit k)) {v : Int} (hv : m k = some v) :
    (Instr.lookup t (.map (some b)) key true).run Tryd.prog w = .ok (.tuple #[.int .i64 v, .bool true]) w := by
  obtain ⟨D, h1, h2, h3, h4, h5⟩ := h
  obtain ⟨u, ps, hrun, hu⟩ := h1.look_ok K ht (zeroInt w) (plainElem_int Tryd.underlying3 (by decide)) hkey
  rw [h5 k v hv] at hu
  obtain ⟨c, rfl, hc, _⟩ := plainElem_int_inv Tryd.underlying3 hu
  have : v = c := by injection hc with hc; injection hc with hc; injection hc
  rw [hrun, this, h4 k, hv]
  rfl
set_option maxRecDepth 100000 in
theorem MapIs.miss (h : MapIs kt lit w b n m) (K : Keyed Tryd.prog kt) {t : TypeId} (ht : Tryd.prog.underlying t = some (.map kt 3)) {key : Value} {k : κ} (hkey : keyOf Tryd.prog kt key = some (lit k)) (hv : m k = none) :
    (Instr.lookup t (.map (some b)) key true).run Tryd.prog w = .ok (.tuple #[.int .i64 0, .bool false]) w := by
  obtain ⟨D, h1, h2, h3, h4, h5⟩ := h
  obtain ⟨u, ps, hrun, hu⟩ := h1.look_ok K ht (zeroInt w) (plainElem_int Tryd.underlying3 (by decide)) hkey
  have hh : Maps.has D (lit k) = false := by rw [h4 k, hv]; rfl
  rw [Maps.atKey_of_not_has hh] at hu
  obtain ⟨c, rfl, hc, _⟩ := plainElem_int_inv Tryd.underlying3 hu
  have : (0 : Int) = c := by injection hc with hc; injection hc with hc; injection hc
  rw [hrun, ← this, hh]
set_option maxRecDepth 100000 in
theorem MapIs.mlen (h : MapIs kt lit w b n m) {t : TypeId} (ht : Tryd.prog.underlying t = some (.map kt 3)) (ty : TypeId) :
    (Builtin.len_ #[t] ty #[.map (some b)]).run Tryd.prog w = .ok (.int .i64 n) w := by
  obtain ⟨D, h1, h2, h3, h4, h5⟩ := h
  rw [h1.len ht ty, h3]
variable {ops : Array Oper} {rest : List Oper} {o : Oper} {a : Act} {Q : Exit → Act → World → Prop}
set_option maxRecDepth 100000 in
theorem MapIs.upd [DecidableEq κ] (hlit : ∀ k : κ, WideAt.IsKeyLit (lit k)) (hinj : ∀ k k' : κ, lit k = lit k' → k = k') {t : TypeId} (K : Keyed Tryd.prog kt) (ht : Tryd.prog.underlying t = some (.map kt 3))
    (h : MapIs kt lit w b n m) (hn : n < 1000000) {key : Value} {k : κ} (hkey : keyOf Tryd.prog kt key = some (lit k)) (hv : m k = none) {v : Int} (hwf : (Lit.int .i64 v).wf = true) :
    ∃ w', (Instr.mapUpdate t (.map (some b)) key (.int .i64 v)).run Tryd.prog w = .ok () w' ∧ MapIs kt lit w' b (n + 1) (fun k' => if k' = k then some v else m k') ∧ w.grownBy w' (some b) := by
  obtain ⟨D, h1, h2, h3, h4, h5⟩ := h
  have hh : Maps.has D (lit k) = false := by rw [h4 k, hv]; rfl
  obtain ⟨w', hrun, ho, hgr⟩ := h1.update K ht (by unfold maxLen; omega) hkey (plainElem_int Tryd.underlying3 hwf)
  refine ⟨w', hrun, ⟨_, ho, h2.put (hlit k) _, by rw [Maps.size_put h2, hh, h3]; rfl, fun k' => ?_, fun k' v' hv' => ?_⟩, hgr⟩
  · by_cases e : k' = k
    · subst e
      rw [Maps.has_put_same h2.isMap (hlit _)]
      simp
    · rw [Maps.has_put_other (fun h => e (hinj _ _ h)), h4 k']
      dsimp only
      rw [if_neg e]
  · by_cases e : k' = k
    · subst e
      dsimp only at hv'
      rw [if_pos rfl] at hv'
      injection hv' with hv'
      rw [Maps.atKey_put_same h2.isMap (hlit _), hv']
    · dsimp only at hv'
      rw [if_neg e] at hv'
      rw [Maps.atKey_put_other (fun h => e (hinj _ _ h))]
      exact h5 k' v' hv'
theorem wpList_new [DecidableEq κ] (hlit : ∀ k : κ, WideAt.IsKeyLit (lit k)) (hinj : ∀ k k' : κ, lit k = lit k' → k = k') (hg : o.guard = none) (x y z : Operand) (t : TypeId) (hop : o.op = Op.mapUpdate t x y z ∨ o.op = Op.insert t x y z) (K : Keyed Tryd.prog kt) (ht : Tryd.prog.underlying t = some (.map kt 3))
    (hm : a.eval x = .map (some b)) (h : MapIs kt lit w b n m) (hn : n < 1000000) (key : Value) (k : κ) (hx : a.eval y = key) (hkey : keyOf Tryd.prog kt key = some (lit k)) (hv : m k = none) (v : Int) (hz : a.eval z = .int .i64 v) (hwf : (Lit.int .i64 v).wf = true)
    (hK : ∀ w', MapIs kt lit w' b (n + 1) (fun k' => if k' = k then some v else m k') → w.grownBy w' (some b) → wpList Tryd.prog ops Q rest (a.put o.dst undef) w') : wpList Tryd.prog ops Q (o :: rest) a w := by
  refine wpList_plain hg fun K' hK' => ?_
  obtain ⟨w', hrun, r1, r2⟩ := h.upd hlit hinj K ht hn hkey hv hwf
  unfold Oper.wp
  rcases hop with hop | hop
  · simp [execOp, hop, hm, hx, hz, hrun, Result.andThen]
    exact hK' _ _ (hK w' r1 r2)
  · simp [execOp, hop, hm, hx, hz, hrun, Result.andThen]
    exact hK' _ _ (hK w' r1 r2)
end
theorem add_str (a b : List UInt8) (h : a.length + b.length ≤ 9223372036854775807) (w : World) : (Op.stringOp .add ⟨a.toArray⟩ ⟨b.toArray⟩).run Tryd.prog w = .ok (.string ⟨(a ++ b).toArray⟩) w := by
  have e1 : (⟨a.toArray⟩ : ByteArray).size = a.length := by simp [ByteArray.size]
  have e2 : (⟨b.toArray⟩ : ByteArray).size = b.length := by simp [ByteArray.size]
  have e3 : (⟨a.toArray⟩ : ByteArray) ++ (⟨b.toArray⟩ : ByteArray) = ⟨(a ++ b).toArray⟩ := by
    apply ByteArray.ext
    simp
  have hm : ¬ (((⟨a.toArray⟩ : ByteArray).size + (⟨b.toArray⟩ : ByteArray).size : Nat) : Int) > IntKind.i64.max := by
    rw [e1, e2]
    show ¬ (((a.length + b.length : Nat) : Int) > 9223372036854775807)
    omega
  unfold Op.stringOp
  simp only [if_neg hm, e3]
  rfl
theorem itoa_calls (n : Int) (h0 : -9223372036854775808 ≤ n) (h1 : n ≤ 9223372036854775807) (w : World) (htab : Tab w) :
    Calls Tryd.prog 63 #[.int .i64 n] w fun e w' => e = .returned (.string ⟨(Lib.itoa n).toArray⟩) ∧ Below w.heap.size w w' := by
  refine (Tryd.strconv_Itoa n h0 h1 w htab).mono ?_
  rintro e w' ⟨rfl, dn, os, rfl⟩
  exact ⟨rfl, Lib.below_grow _ _ (Nat.le_refl _) _ _⟩
def litS (k : List UInt8) : Lit := .string k
def litI (k : Int) : Lit := .int .i64 k
theorem litS_key (k : List UInt8) : WideAt.IsKeyLit (litS k) := by simp [litS, WideAt.IsKeyLit]
theorem litI_key (k : Int) : WideAt.IsKeyLit (litI k) := by simp [litI, WideAt.IsKeyLit]
theorem litS_inj (k k' : List UInt8) (h : litS k = litS k') : k = k' := by injection h
theorem litI_inj (k k' : Int) (h : litI k = litI k') : k = k' := by injection h
theorem keyedS : Keyed Tryd.prog 9 := string_keyed Tryd.underlying9
theorem keyedI : Keyed Tryd.prog 3 := int_keyed Tryd.underlying3
theorem keyS_of {k : List UInt8} (h : k.length ≤ 1000000000000000) : keyOf Tryd.prog 9 (.string ⟨k.toArray⟩) = some (litS k) := by
  rw [WideMaps.keyOf_string_mk Tryd.underlying9 (by unfold maxLen; simp [ByteArray.size]; omega)]
  simp [litS]
theorem keyI_of {k : Int} (h : (Lit.int .i64 k).wf = true) : keyOf Tryd.prog 3 (.int .i64 k) = some (litI k) := keyOf_int_mk Tryd.underlying3 h
end Go.Proofs.YthohahcpdgebbaaDoor.Wk
namespace Go.Proofs.YthohahcpdgebbaaDoor.Wk
open Go.RowKit Go.Proofs.YthohahcpdgebbaaDoorW.PrintWords Go.Proofs.YthohahcpdgebbaaDoorW.PrintLast Go.Proofs.YthohahcpdgebbaaDoorW.PrintMore
open Go.Proofs.YthohahcpdgebbaaDoor.Th
set_option linter.unusedVariables false
set_option linter.unusedSimpArgs false
theorem fill_set {α : Type} (l : List α) (n k : Nat) (z y : α) (hl : l.length = n) (hk : k < n) : (l.take k ++ List.replicate (n - k) z).set k (l.getD k y) = l.take (k + 1) ++ List.replicate (n - (k + 1)) z := by
  have e1 : (l.take k).length = k := by rw [List.length_take]; omega
  rw [List.set_append_right _ _ (by omega), e1, Nat.sub_self, show n - k = (n - (k + 1)) + 1 by omega, List.replicate_succ, List.set_cons_zero, List.take_succ_eq_append_getElem (by omega), List.append_assoc, List.getD_eq_getElem?_getD, List.getElem?_eq_getElem (by omega)]
  rfl
theorem at_bool {w : World} {A : Option Addr} {n : Nat} {xs : List Bool} (h : Kd.bool.C w A n xs) (i : Nat) (h1 : i < n) :
    ∃ b o, A = some ⟨b, o, none⟩ ∧ b < w.heap.size ∧ w.cell? ⟨b, o + i, none⟩ = some (.bool (xs.getD i false)) := by
  obtain ⟨b, o, e, hb, hc⟩ := C_lit h (by omega) (by simp [Kd.bool, Kd.scalar]) false
  obtain ⟨c, _, hK, hc⟩ := hc i h1
  obtain rfl : c = [.bool (xs.getD i false)] := hK
  have := hc 0 _ rfl
  rw [show o + i * Kd.bool.sz + 0 = o + i by simp [Kd.bool, Kd.scalar]] at this
  exact ⟨b, o, e, hb, this⟩
theorem lab_at {d : Dfa} (hok : Ok d) {k : Nat} (hk : k < d.arcs.length) : d.labels.getD k 0 = d.lab k := by
  have hk2 : k < d.labels.length := by rw [hok.len]; exact hk
  unfold Dfa.lab
  rw [List.getD_eq_getElem?_getD, List.getD_eq_getElem?_getD, Int.toNat_natCast, List.getElem?_eq_getElem hk2]
  rfl
theorem grouped_n (A0 : Option Addr) (c0 : Nat) (l : List Arc) (A1 : Option Addr) (c1 : Nat) (cls : List Int) (n : Nat) (hn : cls.length = n) (w : World)
    (hr0 : kArc.C w A0 l.length l) (hr1 : (Kd.int .i64).C w A1 n cls) (hto : ∀ a ∈ l, 0 ≤ a.to ∧ a.to < cls.length ∧ a.hi ≤ 1114111 ∧ 0 ≤ a.hi) (hlen : l.length ≤ 4294967296) :
    Calls Tryd.prog 49 #[.slice A0 l.length c0, .slice A1 n c1] w fun e w' => ∃ v, e = .returned v ∧ kArc.R 54 w' w.heap.size (fun _ => True) v (l.foldl (grpStep (cl cls)) []) ∧ Below w.heap.size w w' := by
  subst hn
  exact grouped_calls A0 c0 l A1 c1 cls w hr0 hr1 hto hlen
theorem fill3 {α : Type} (a : List α) (x y : α) (r : List α) (k : Nat) (ha : a.length = k) : ((a ++ [x]) ++ r).set k y = (a ++ [y]) ++ r := by
  rw [List.append_assoc, List.set_append_right _ _ (by omega), ha, Nat.sub_self, List.append_assoc]
  rfl
theorem cell_later {w w' : World} {a : Addr} {v : Value} (hb : Below w.heap.size w w') (h : w.cell? a = some v) : w'.cell? a = some v := (hb.cell (World.block_lt_of_cell? w a h)).trans h
theorem below_next {a b c : World} (h : Below a.heap.size a b) (h2 : Below b.heap.size b c) : Below a.heap.size a c := h.trans (h2.mono h.size)
set_option maxHeartbeats 8000000 in
set_option maxRecDepth 100000 in
theorem classes_calls (d : Dfa) (hok : Ok d) (A1 : Option Addr) (c1 : Nat) (A2 : Option Addr) (c2 : Nat) (w : World) (hd : RdD w d A1 c1 A2 c2) (harc : ∀ l ∈ d.arcs, l.length ≤ 4294967296) (hlab : ∀ x ∈ d.labels, x ≤ 9223372036854775807) (htab : Tab w) :
    Calls Tryd.prog 48 #[.agg #[.int .i64 d.start, .slice A1 d.arcs.length c1, .slice A2 d.labels.length c2]] w fun e w' => ∃ v R, e = .returned v ∧ (Kd.int .i64).R 3 w' w.heap.size (fun _ => True) v R ∧ CRes d R ∧ Below w.heap.size w w' := by
  obtain ⟨m1, m2⟩ := hd.max
  have HD := Aside0.mk hd
  have HOK := Aside0.mk hok
  have HA := Aside0.mk harc
  have HLB := Aside0.mk hlab
  have HTAB := Aside0.mk htab
  have n0 : 1 ≤ d.arcs.length := hok.pos
  have n1 : d.arcs.length ≤ 3000 := hok.lim
  have n2 : d.labels.length = d.arcs.length := hok.len
  have N2 := Aside0.mk n2
  clear hd harc hok n2 hlab htab
  go_enter Tryd.func48, Tryd.ntmps48
  go_wp2_with fail
  refine (useful_calls d HOK.out A1 c1 A2 c2 _ (HD.out.below (below_alloc (Below.refl _ _) _)) HA.out).mono ?_
  rintro e wu ⟨v, bs, rfl, hR, hbs, hb⟩
  have hb0 : Below (w.heap.size + 1) (w.alloc (.cells #[.int .i64 d.start, .slice A1 d.arcs.length c1, .slice A2 d.labels.length c2] 28)) wu := by
    have e : (w.alloc (.cells #[.int .i64 d.start, .slice A1 d.arcs.length c1, .slice A2 d.labels.length c2] 28)).heap.size = w.heap.size + 1 := by simp
    rwa [e] at hb
  have HBU := Aside0.mk hb0
  have hbn : bs.length = d.arcs.length := hbs.1
  obtain ⟨gl, cgl, rfl, _, hgl, _⟩ := Kd.R_form hR (by rw [hbn]; omega)
  have hC := (Kd.R_reads' hR).2.2
  rw [hbn] at hC
  have HC := Aside0.mk hC
  have HBS := Aside0.mk (show BsOk d bs from hbs)
  obtain ⟨hbox, hbel, hwu⟩ := box_later hb0
  have x1 := hbox 1 _ rfl
  have HBN := Aside0.mk hbn
  rw [hbn]
  clear hb hb0 hR hbs hC hbox hbel hbn
  go_wp2_with (refine Kd.R_make (Kd.int .i64) (w0 := wu) wu.heap.size 3 rfl rfl 26 _ _ rfl (d.arcs.length : Int) rfl rfl Tryd.underlying26 (.int .i64 0) 8 infoInt rfl (by decide) (by decide) 0 (ok := fun _ => True) (okp := fun _ => False) rfl (fun _ _ => trivial) trivial (by omega) (by omega) (Below.refl _ _) (Nat.le_refl _) ?_; intro v2 w2 hR hB2 hg hat; rw [Int.toNat_natCast] at hR; have hrl : (List.replicate d.arcs.length (0 : Int)).length = d.arcs.length := List.length_replicate; obtain ⟨go, co, rfl, hgo0, hgo1, _⟩ := Kd.R_form hR (by rw [hrl]; omega); rw [hrl] at hR; have HR := Aside0.mk hR; have HB2 := Aside0.mk hB2; rw [hrl]; clear hrl hg hat hR hB2)
  go_loopw [21] (fun i wr => ∃ k : Nat, k ≤ d.arcs.length ∧ i = .int .i64 k ∧ Aside0 ((Kd.int .i64).R 3 wr wu.heap.size (fun _ => True) (.slice (some ⟨go, 0, none⟩) d.arcs.length co) ((startC d bs).take k ++ List.replicate (d.arcs.length - k) 0)) ∧ Aside0 (Below wu.heap.size wu wr)) (fun i _ => d.arcs.length - (intOf i).toNat)
  case atStart => exact ⟨0, by omega, rfl, ⟨by simpa using HR.out⟩, HB2⟩
  case round =>
    obtain ⟨k, hk, rfl, HO, HB⟩ := hrel
    by_cases hlt : k < d.arcs.length
    · obtain ⟨hbox, hbel, hwz⟩ := box_later (HBU.out.trans (HB.out.mono hwu))
      have x2 := hbox 2 _ rfl
      obtain ⟨q2, o2, e, hb2, hc2⟩ := at_num HD.out.labs k (by rw [N2.out]; exact hlt)
      cases e
      replace hc2 := (hbel.cell (p := ⟨q2, o2 + k, none⟩) hb2).trans hc2
      obtain ⟨q3, o3, e, hb3, hc3⟩ := at_bool (Kd.C_below HC.out HB.out) k hlt
      cases e
      rw [Nat.zero_add] at hc3
      obtain ⟨y1, y2⟩ := Kd.R_celln 0 HO.out (k : Int) (by omega) (by omega)
      rw [Int.toNat_natCast] at y1 y2
      have hput := fun x => (Kd.R_putg HO.out (k : Int) x).1
      simp only [Int.toNat_natCast] at hput
      have hfs := fill_set (startC d bs) d.arcs.length k 0
      have hsa := startC_at (d := d) (bs := bs) (s := k) hlt
      have hlq := lab_at HOK.out hlt
      have hge := HOK.out.lab_ge (k : Int)
      have hll : d.lab (k : Int) ≤ 9223372036854775807 := by
        rw [← hlq]
        exact HLB.out _ (by rw [List.getD_eq_getElem?_getD, List.getElem?_eq_getElem (show k < d.labels.length by rw [N2.out]; exact hlt)]; exact List.getElem_mem _)
      rw [hlq] at hc2
      obtain ⟨y, hy⟩ : ∃ y, y = d.lab (k : Int) := ⟨_, rfl⟩
      rw [← hy] at hc2 hge hll hsa
      have HX2 := Aside0.mk (fun (x : Int) (u : Int) => Kd.R_putg (hput x) (k : Int) u)
      have HPUT := Aside0.mk hput
      have k2 : (k : Int) < (d.labels.length : Int) := by rw [N2.out]; omega
      have hst : (startC d bs).length = d.arcs.length := startC_len d bs
      by_cases hbk : bs.getD k false = true
      · rw [hbk] at hc3
        rw [if_pos hbk] at hsa
        have HR2 : Aside0 (∀ wr' : World, wr' = (wr.setCell ⟨go, k, none⟩ (.int .i64 (-1))).setCell ⟨go, k, none⟩ (.int .i64 (bump y)) → (Kd.int .i64).R 3 wr' wu.heap.size (fun _ => True) (.slice (some ⟨go, 0, none⟩) d.arcs.length co) ((startC d bs).take (k + 1) ++ List.replicate (d.arcs.length - (k + 1)) 0)) := ⟨by
          rintro wr' rfl
          have h1 := (HX2.out (-1) (bump y)).1
          simp only [Int.toNat_natCast, List.set_set] at h1
          rw [← hfs _ hst hlt, hsa]
          exact h1⟩
        have HB3 := Aside0.mk (show Below wu.heap.size wu ((wr.setCell ⟨go, k, none⟩ (.int .i64 (-1))).setCell ⟨go, k, none⟩ (.int .i64 (bump y))) from (HB.out.setCell (p := ⟨go, k, none⟩) hgo0 _).setCell (p := ⟨go, k, none⟩) hgo0 _)
        clear hbox hbel hput hfs hsa hlq hbk hy HPUT HX2 hst
        by_cases hym : y = 9223372036854775807
        · subst hym
          go_wp2
          go_roundw
          case rel =>
            have hw : (wrap64 9223372036854775808 : Int) = bump 9223372036854775807 := by unfold bump wrap64; rw [if_pos rfl]; omega
            refine ⟨k + 1, by omega, by go_num, ⟨HR2.out _ (by rw [hw])⟩, ⟨?_⟩⟩
            rw [hw]
            exact HB3.out
          case measure => simp [intOf]; omega
        · have hyl : y ≤ 9223372036854775806 := by omega
          have HBY := Aside0.mk (show bump y = y + 1 from if_neg hym)
          clear hym
          go_wp2
          go_roundw
          case rel =>
            refine ⟨k + 1, by omega, by go_num, ⟨HR2.out _ (by rw [HBY.out])⟩, ⟨?_⟩⟩
            rw [← HBY.out]
            exact HB3.out
          case measure => simp [intOf]; omega
      · have hbk' : bs.getD k false = false := by simpa using hbk
        rw [hbk'] at hc3
        rw [if_neg hbk] at hsa
        have HR2 : Aside0 ((Kd.int .i64).R 3 (wr.setCell ⟨go, k, none⟩ (.int .i64 (-1))) wu.heap.size (fun _ => True) (.slice (some ⟨go, 0, none⟩) d.arcs.length co) ((startC d bs).take (k + 1) ++ List.replicate (d.arcs.length - (k + 1)) 0)) := ⟨by
          have h1 := HPUT.out (-1)
          rw [← hfs _ hst hlt, hsa]
          exact h1⟩
        have HB3 := Aside0.mk (show Below wu.heap.size wu (wr.setCell ⟨go, k, none⟩ (.int .i64 (-1))) from HB.out.setCell (p := ⟨go, k, none⟩) hgo0 _)
        clear hbox hbel hput hfs hsa hlq hbk hbk' hy HPUT HX2 hst
        go_wp2
        go_roundw
        case rel => exact ⟨k + 1, by omega, by go_num, HR2, HB3⟩
        case measure => simp [intOf]; omega
    · obtain rfl : k = d.arcs.length := by omega
      rw [Nat.sub_self, List.replicate_zero, List.append_nil, List.take_of_length_le (by rw [startC_len]; exact Nat.le_refl _)] at HO
      have HI := Aside0.mk (startC_inv HOK.out HBS.out HLB.out)
      have HQ0 := Aside0.mk (show ∃ out g c, Value.slice (some ⟨go, 0, none⟩) d.arcs.length co = Value.slice (some ⟨g, 0, none⟩) d.arcs.length c ∧ wu.heap.size ≤ g ∧ (Kd.int .i64).R 3 wr wu.heap.size (fun _ => True) (.slice (some ⟨g, 0, none⟩) d.arcs.length c) out ∧ CInv d out 0 from ⟨_, go, co, rfl, hgo0, HO.out, HI.out⟩)
      clear HO HI
      go_wp2
      go_loopg [4, 6] d.n (fun z v m wr => ∃ many : Nat, many + z = d.n ∧ m = .int .i64 many ∧ Aside0 (∃ out g c, v = Value.slice (some ⟨g, 0, none⟩) d.arcs.length c ∧ wu.heap.size ≤ g ∧ (Kd.int .i64).R 3 wr wu.heap.size (fun _ => True) (.slice (some ⟨g, 0, none⟩) d.arcs.length c) out ∧ CInv d out many) ∧ Aside0 (Below wu.heap.size wu wr))
      case atStart => exact ⟨0, by omega, rfl, HQ0, HB⟩
      case round =>
        obtain ⟨many, hz, rfl, HQ, HB4⟩ := hrel
        have HZ := Aside0.mk hz
        obtain ⟨out, g, c, rfl, hg0, hR, hI⟩ := HQ.out
        have hCo := (Kd.R_reads' hR).2.2
        have hol : out.length = d.arcs.length := hI.len
        rw [hol] at hCo
        have HCO := Aside0.mk hCo
        have HI := Aside0.mk hI
        have HOL := Aside0.mk hol
        obtain ⟨hbox, hbel, hwz⟩ := box_later (HBU.out.trans (HB4.out.mono hwu))
        have x2 := hbox 1 _ rfl
        have hgw := Kd.R_lt hR g (by simp [Value.ownBlock])
        obtain ⟨wK, rfl⟩ : ∃ wK : World, wK = wr := ⟨_, rfl⟩
        clear hbox hbel hR hI hCo HQ HQ0 HR hol
        have hmm := @run_makeMap Tryd.prog
        have hdl : 0 ≤ (d.arcs.length : Int) := by omega
        go_wp2_with (refine Kd.R_make (Kd.int .i64) (w0 := wK) wK.heap.size 3 rfl rfl 26 _ _ rfl (d.arcs.length : Int) rfl rfl Tryd.underlying26 (.int .i64 0) 8 infoInt rfl (by decide) (by decide) 0 (ok := fun k => k ≠ wK.heap.size) (okp := fun _ => False) rfl (fun _ hk => hk.elim) (by simp) hdl (by omega) ((Below.refl _ _).alloc (Nat.le_refl _) _) (by simp) ?_; intro v3 w3 hR hB3 hg hat; rw [Int.toNat_natCast] at hR; have hrl : (List.replicate d.arcs.length (0 : Int)).length = d.arcs.length := List.length_replicate; obtain ⟨f, cf, rfl, hf0, hf1, _⟩ := Kd.R_form hR (by rw [hrl]; omega); rw [hrl] at hR; have HFR := Aside0.mk hR; have HB3 := Aside0.mk hB3; have HM3 := Aside0.mk ((mapIs_made 9 litS wK).kept hg (by simp)); rw [hrl]; clear hrl hg hat hR hB3)
        clear hmm
        go_loopw [47] (fun i wr => ∃ k : Nat, k ≤ d.arcs.length ∧ i = .int .i64 k ∧
          Aside0 ((Kd.int .i64).R 3 wr wK.heap.size (fun k => k ≠ wK.heap.size) (.slice (some ⟨f, 0, none⟩) d.arcs.length cf) ((numb ((keysB d bs out).take k)).1 ++ List.replicate (d.arcs.length - k) 0)) ∧
          Aside0 (MapIs 9 litS wr wK.heap.size (numb ((keysB d bs out).take k)).2.length (nfun (numb ((keysB d bs out).take k)).2)) ∧ Aside0 (Below wK.heap.size wK wr)) (fun i _ => d.arcs.length - (intOf i).toNat)
        case atStart => exact ⟨0, by omega, rfl, ⟨by simpa [numb] using HFR.out⟩, ⟨by simpa [numb, nfun_nil] using HM3.out⟩, HB3⟩
        case round =>
          obtain ⟨k, hk, rfl, HO, HM, HB5⟩ := hrel
          by_cases hlt : k < d.arcs.length
          · have hBB := HB4.out.trans (HB5.out.mono HB4.out.size)
            obtain ⟨q3, o3, e, hb3, hc3⟩ := at_bool (Kd.C_below HC.out hBB) k hlt
            cases e
            rw [Nat.zero_add] at hc3
            have hfs := Kd.R_slice HO.out
            have hnl := numb_len (l := keysB d bs out) (k := k) (by rw [keysB_len]; exact hk)
            have hkat := keysB_at (d := d) (bs := bs) (out := out) (s := k) hlt
            obtain ⟨N1, hN1⟩ : ∃ N1, N1 = (numb ((keysB d bs out).take k)).1 := ⟨_, rfl⟩
            obtain ⟨N2', hN2⟩ : ∃ N2', N2' = (numb ((keysB d bs out).take k)).2 := ⟨_, rfl⟩
            rw [← hN1] at HO hnl
            rw [← hN2] at HM
            obtain ⟨y1, y2⟩ := Kd.R_celln 0 HO.out (k : Int) (by omega) (by omega)
            rw [Int.toNat_natCast] at y1 y2
            have hput := (Kd.R_putg HO.out (k : Int) (-1)).1
            rw [Int.toNat_natCast, fill2 N1 d.arcs.length k 0 (-1) hnl hlt] at hput
            have hne := HO.out.1 f (by simp [Value.ownBlock])
            have hM1 := HM.out.setCell (p := ⟨f, k, none⟩) (Ne.symm hne) (.int .i64 (-1))
            have HB6 := Aside0.mk (HB5.out.setCell (p := ⟨f, k, none⟩) hf0 (.int .i64 (-1)))
            have HR1 := Aside0.mk hput
            have HM1 := Aside0.mk hM1
            have HNL := Aside0.mk hnl
            have hkl : (keysB d bs out).length = d.n := keysB_len
            by_cases hbk : bs.getD k false = true
            · rw [hbk] at hc3
              rw [if_pos hbk] at hkat
              have hst := numb_take hkat
              have hbK := (box_later (HBU.out.trans (HB4.out.mono hwu))).2.1
              obtain ⟨q1, o1, A0, c0, e, hb1, hc1, _, hrl⟩ := at_arcs HD.out.arcs k hlt
              cases e
              have cA := (HB6.out.cell (p := ⟨q1, o1 + k, none⟩) (Nat.lt_of_lt_of_le hb1 hbK.size)).trans ((hbK.cell (p := ⟨q1, o1 + k, none⟩) hb1).trans hc1)
              obtain ⟨q4, o4, e, hb4, hc4⟩ := at_num HCO.out k hlt
              cases e
              rw [Nat.zero_add] at hc4
              have cO := (HB6.out.cell (p := ⟨g, k, none⟩) hb4).trans hc4
              have cB := (HB6.out.cell (p := ⟨w.heap.size, 1, none⟩) hwz).trans x2
              have hrw := Kd.C_below (Kd.C_below hrl hbK) HB6.out
              have hcw := Kd.C_below HCO.out HB6.out
              have htw := (HTAB.out.later hbK).later HB6.out
              have hlm := HA.out (d.arcs.getD k []) (by rw [List.getD_eq_getElem?_getD, List.getElem?_eq_getElem hlt]; exact List.getElem_mem hlt)
              obtain ⟨l, hl⟩ : ∃ l, l = d.arcs.getD k [] := ⟨_, rfl⟩
              have hal : d.arc k = l := by rw [hl]; unfold Dfa.arc; rw [Int.toNat_natCast]
              rw [← hl] at cA hrw hlm
              obtain ⟨W1, hW1⟩ : ∃ W1, W1 = wr.setCell ⟨f, k, none⟩ (.int .i64 (-1)) := ⟨_, rfl⟩
              rw [← hW1] at HB6 HR1 HM1 cA cO cB hrw hcw htw
              have hxo : out.getD k 0 = out.getD k (-1) := by
                rw [List.getD_eq_getElem?_getD, List.getD_eq_getElem?_getD, List.getElem?_eq_getElem (by rw [HOL.out]; exact hlt)]
                rfl
              rw [hxo] at cO
              have hxb := cl_i64 HI.out (k : Int)
              rw [cl_nat] at hxb
              obtain ⟨xo, hxo2⟩ : ∃ xo, xo = out.getD k (-1) := ⟨_, rfl⟩
              rw [← hxo2] at cO hxb
              have HTO := Aside0.mk (show ∀ a ∈ l, 0 ≤ a.to ∧ a.to < (out.length : Int) ∧ a.hi ≤ 1114111 ∧ 0 ≤ a.hi from fun a ha => by
                have h1 := okA_bounds (HOK.out.arc_ok k) a (by rw [hal]; exact ha)
                have h2 : (d.n : Int) = out.length := by rw [HOL.out]; rfl
                omega)
              have HOT := Aside0.mk (show OkT (l.foldl (grpStep (cl out)) []) from by
                have := grp_okT HOK.out HI.out k
                rw [hal] at this
                rw [foldl_grpStep]
                exact this)
              have HLF := Aside0.mk (show (l.foldl (grpStep (cl out)) []).length ≤ 4294967296 from Nat.le_trans (foldl_grpStep_len _ _ _) (by simpa using hlm))
              have HKEY := Aside0.mk (show keyOfS d out k = Lib.itoa xo ++ 58 :: txt (l.foldl (grpStep (cl out)) []) from by
                unfold keyOfS
                rw [hal, foldl_grpStep, hxo2])
              have HKL := Aside0.mk (keyOfS_len HOK.out HI.out k (by rw [hal]; exact hlm))
              have HST := Aside0.mk hst
              have HN1 := Aside0.mk hN1
              have HN2 := Aside0.mk hN2
              have HRW := Aside0.mk hrw
              have HCW := Aside0.mk hcw
              have HTW := Aside0.mk htw
              obtain ⟨xb0, xb1⟩ := hxb
              clear hBB hfs hnl hkat hN1 hN2 hput hM1 hbk hst hkl hbK hrl hrw hcw htw hl hal hxo hxo2 hc4 hc1
              have hk0 : (0 : Int) ≤ (k : Int) := by omega
              have hk1 : (k : Int) < (d.arcs.length : Int) := by omega
              go_upto_region 18 with (fail)
              rw [← hW1]
              clear y1 y2 hc3 hW1
              go_cut [10] (fun v wc => v = .string ⟨(keyOfS d out k).toArray⟩ ∧ Aside0 (Below W1.heap.size W1 wc))
              case first =>
                have z0 : Below W1.heap.size W1 W1.drew := (Below.refl _ _).drew
                have z1 : W1.drew.cell? ⟨g, k, none⟩ = some (.int .i64 xo) := cO
                have z2 : W1.drew.cell? ⟨w.heap.size, 1, none⟩ = some (.slice (some ⟨q1, o1, none⟩) d.arcs.length c1) := cB
                have z3 : W1.drew.cell? ⟨q1, o1 + k, none⟩ = some (.slice A0 l.length c0) := cA
                have ha1 := add_str (Lib.itoa xo) [58] (by have := itoa_len xo xb0 xb1; simp; omega)
                have ha2 := add_str (Lib.itoa xo ++ [58]) (txt (l.foldl (grpStep (cl out)) [])) (by
                  have h1 := HKL.out
                  rw [HKEY.out] at h1
                  simp at h1 ⊢
                  omega)
                go_wp2_with fail
                go_region_held3 (fun w' => Below W1.heap.size W1 w' ∧ w'.cell? ⟨g, k, none⟩ = some (.int .i64 xo) ∧ w'.cell? ⟨w.heap.size, 1, none⟩ = some (.slice (some ⟨q1, o1, none⟩) d.arcs.length c1) ∧ w'.cell? ⟨q1, o1 + k, none⟩ = some (.slice A0 l.length c0))
                  (first | exact ⟨z0, z1, z2, z3⟩)
                  (first
                    | (go_at_call 63; refine (itoa_calls xo xb0 xb1 _ (HTW.out.later z0)).mono ?_; rintro e w5 ⟨rfl, hb5⟩; have z1 := cell_later hb5 z1; have z2 := cell_later hb5 z2; have z3 := cell_later hb5 z3; have z0 := below_next z0 hb5; (try (have hC5 := Kd.C_below hC5 hb5)))
                    | (go_at_call 49; refine (grouped_n A0 c0 l (some ⟨g, 0, none⟩) c out d.arcs.length HOL.out _ (Kd.C_below HRW.out z0) (Kd.C_below HCW.out z0) HTO.out hlm).mono ?_; rintro e w6 ⟨v6, rfl, hR6, hb6⟩; obtain ⟨A5, c5, rfl, _, hC5⟩ := Kd.R_reads hR6; have z1 := cell_later hb6 z1; have z2 := cell_later hb6 z2; have z3 := cell_later hb6 z3; have z0 := below_next z0 hb6; clear hR6)
                    | (go_at_call 80; refine (text_calls A5 c5 (l.foldl (grpStep (cl out)) []) _ (HTW.out.later z0) hC5 HOT.out HLF.out).mono ?_; rintro e w7 ⟨rfl, hb7⟩; have z1 := cell_later hb7 z1; have z2 := cell_later hb7 z2; have z3 := cell_later hb7 z3; have z0 := below_next z0 hb7))
                all_goals (go_wp2_with fail; go_meet; (case rel => exact ⟨by rw [HKEY.out], ⟨z0⟩⟩))
              case rest =>
                obtain ⟨rfl, HB7⟩ := hcut
                have HBX := Aside0.mk (HB6.out.trans (HB7.out.mono HB6.out.size))
                have HRC := Aside0.mk (Kd.R_below HR1.out HB7.out)
                have HMC := Aside0.mk (HM1.out.later HB7.out)
                have hkey := keyS_of (k := keyOfS d out k) (Nat.le_trans HKL.out (by omega))
                have HKEY2 := Aside0.mk hkey
                have hn2 : N2'.length ≤ 3000 := by
                  rw [HN2.out]
                  have h1 := (numOk ((keysB d bs out).take k)).le
                  rw [List.length_take] at h1
                  omega
                obtain ⟨y3, y4⟩ := Kd.R_celln 0 HRC.out (k : Int) (by omega) (by omega)
                rw [Int.toNat_natCast] at y3 y4
                have hput := fun x => (Kd.R_putg HRC.out (k : Int) x).1
                simp only [Int.toNat_natCast, fill3 N1 (-1) _ _ k HNL.out] at hput
                have HPUT := Aside0.mk hput
                clear hput
                obtain ⟨key, hke⟩ : ∃ key, key = keyOfS d out k := ⟨_, rfl⟩
                rw [← hke] at HKEY2 HST hkey ⊢
                cases hix : ix N2' key with
                | some i =>
                  have hlk := HMC.out.hit keyedS Tryd.underlying60 hkey (v := (i : Int)) (nfun_hit hix)
                  have HE1 := Aside0.mk (show (numb ((keysB d bs out).take (k + 1))).1 = N1 ++ [(i : Int)] from by rw [HST.out, numStep_hit (by rw [← HN2.out]; exact hix), ← HN1.out])
                  have HE2 := Aside0.mk (show (numb ((keysB d bs out).take (k + 1))).2 = N2' from by rw [HST.out, numStep_hit (by rw [← HN2.out]; exact hix), ← HN2.out])
                  have HB8 := Aside0.mk (HBX.out.setCell (p := ⟨f, k, none⟩) hf0 (.int .i64 i))
                  have HM8 := Aside0.mk (HMC.out.setCell (p := ⟨f, k, none⟩) (Ne.symm hne) (.int .i64 i))
                  clear hkey hix hke
                  go_wp2
                  go_roundw
                  case rel => exact ⟨k + 1, by omega, by go_num, ⟨by rw [HE1.out]; exact HPUT.out i⟩, ⟨by rw [HE2.out]; exact HM8.out⟩, HB8⟩
                  case measure => simp [intOf]; omega
                | none =>
                  have hlk := HMC.out.miss keyedS Tryd.underlying60 hkey (nfun_miss hix)
                  have hml := fun ty => HMC.out.mlen (t := 60) Tryd.underlying60 ty
                  have HMI := Aside0.mk (show nfun N2' key = none from nfun_miss hix)
                  have HE1 := Aside0.mk (show (numb ((keysB d bs out).take (k + 1))).1 = N1 ++ [(N2'.length : Int)] from by rw [HST.out, numStep_miss (by rw [← HN2.out]; exact hix), ← HN1.out, ← HN2.out])
                  have HE2 := Aside0.mk (show (numb ((keysB d bs out).take (k + 1))).2 = N2' ++ [key] from by rw [HST.out, numStep_miss (by rw [← HN2.out]; exact hix), ← HN2.out])
                  have HFN := Aside0.mk (nfun_snoc hix)
                  have hwf : (Lit.int .i64 (N2'.length : Int)).wf = true := WalkArith.wf_i64 (by omega)
                  have HWF := Aside0.mk hwf
                  have hn3 : N2'.length < 1000000 := by omega
                  clear hkey hix hke hwf
                  go_wp2_with (at_mapUpdate; refine wpList_new litS_key litS_inj rfl _ _ _ 60 (.inl rfl) keyedS Tryd.underlying60 rfl HMC.out hn3 _ key rfl HKEY2.out HMI.out (N2'.length : Int) rfl HWF.out ?_; intro w8 hm8 hg8; have hr8 := Kd.R_grown HRC.out hg8 (fun q hq e => hq (by injection e)); obtain ⟨y5, y6⟩ := Kd.R_celln 0 hr8 (k : Int) (by omega) (by omega); rw [Int.toNat_natCast] at y5 y6; have HR8 := Aside0.mk hr8; have HM8 := Aside0.mk hm8; have HG8 := Aside0.mk hg8; clear hr8 hm8 hg8)
                  have hput8 := (Kd.R_putg HR8.out (k : Int) (N2'.length : Int)).1
                  rw [Int.toNat_natCast, fill3 N1 (-1) _ _ k HNL.out] at hput8
                  have HP8 := Aside0.mk hput8
                  have HB8 := Aside0.mk ((HBX.out.grown HG8.out HBX.out.size (fun q hq => by injection hq with hq; omega)).setCell (p := ⟨f, k, none⟩) hf0 (.int .i64 N2'.length))
                  have HM9 := Aside0.mk (HM8.out.setCell (p := ⟨f, k, none⟩) (Ne.symm hne) (.int .i64 N2'.length))
                  clear hput8
                  go_wp2
                  go_roundw
                  case rel => exact ⟨k + 1, by omega, by go_num, ⟨by rw [HE1.out]; exact HP8.out⟩, ⟨by rw [HE2.out, ← HFN.out, List.length_append, List.length_singleton]; exact HM9.out⟩, HB8⟩
                  case measure => simp [intOf]; omega
            · have hbk' : bs.getD k false = false := by simpa using hbk
              rw [hbk'] at hc3
              rw [if_neg hbk] at hkat
              have hst := numb_take hkat
              have e1 : (numb ((keysB d bs out).take (k + 1))).1 = N1 ++ [-1] := by rw [hst, hN1]; rfl
              have e2 : (numb ((keysB d bs out).take (k + 1))).2 = N2' := by rw [hst, hN2]; rfl
              have HE1 := Aside0.mk e1
              have HE2 := Aside0.mk e2
              clear hBB hfs hnl hkat hN1 hN2 hput hM1 hbk hbk' hst e1 e2 hkl
              go_wp2
              go_roundw
              case rel => exact ⟨k + 1, by omega, by go_num, ⟨by rw [HE1.out]; exact HR1.out⟩, ⟨by rw [HE2.out]; exact HM1.out⟩, HB6⟩
              case measure => simp [intOf]; omega
          · obtain rfl : k = d.arcs.length := by omega
            rw [Nat.sub_self, List.replicate_zero, List.append_nil, List.take_of_length_le (by rw [keysB_len]; exact Nat.le_refl _)] at HO
            rw [List.take_of_length_le (by rw [keysB_len]; exact Nat.le_refl _)] at HM
            have hml := fun ty => HM.out.mlen (t := 60) Tryd.underlying60 ty
            have hri := rnd_inv HOK.out HBS.out HI.out
            have hrc := (rnd_count HBS.out HI.out).1
            have hrd := rnd_done HOK.out HBS.out HI.out
            have hrl : (numb (keysB d bs out)).2.length ≤ d.n := by have := (numOk (keysB d bs out)).le; rwa [keysB_len] at this
            have hBB := HB4.out.trans (HB5.out.mono HB4.out.size)
            have hRR := Kd.R_mono (ok' := fun _ => True) (Kd.R_lower HO.out HB4.out.size) (fun _ _ => trivial)
            obtain ⟨q, hq⟩ : ∃ q, q = (numb (keysB d bs out)).2.length := ⟨_, rfl⟩
            obtain ⟨R, hRe⟩ : ∃ R, R = (numb (keysB d bs out)).1 := ⟨_, rfl⟩
            rw [← hq] at hml hri hrc hrd hrl
            rw [← hRe] at hri hrd hRR
            have HBB := Aside0.mk hBB
            have HRR := Aside0.mk hRR
            have HRI := Aside0.mk hri
            have HF0 := Aside0.mk (show wu.heap.size ≤ f from Nat.le_trans HB4.out.size hf0)
            have hdn : d.n = d.arcs.length := rfl
            have hrl2 : q ≤ 3000 := by omega
            by_cases hqm : q = many
            · have HF := Aside0.mk (hrd hqm)
              have HB6 := Aside0.mk (show Below w.heap.size w wr from (box_later (HBU.out.trans (HBB.out.mono hwu))).2.1)
              have HR6 := Aside0.mk (Kd.R_lower HRR.out (Nat.le_of_lt hwu))
              have hqb : ((q : Int) == (many : Int)) = true := beq_iff_eq.2 (by omega)
              subst hqm
              clear hri hrc hrd hBB hRR hq hRe HO HM hdn
              go_wp2
              go_ret
              exact ⟨_, R, rfl, HR6.out, HF.out, HB6.out⟩
            · have hqb : ((q : Int) == (many : Int)) = false := beq_eq_false_iff_ne.2 (by omega)
              have HML := Aside0.mk (show many < q ∧ q ≤ d.n from ⟨by omega, hrl⟩)
              clear hri hrc hrd hBB hRR hq hRe HO HM hqm hdn
              go_wp2
              go_roundg (d.n - q)
              case measure => have h1 := HML.out; omega
              case rel => exact ⟨q, by have h1 := HML.out; omega, by go_num, ⟨R, f, cf, rfl, HF0.out, HRR.out, HRI.out⟩, HBB⟩
end Go.Proofs.YthohahcpdgebbaaDoor.Wk
namespace Go.Proofs.YthohahcpdgebbaaDoor.Wk
open Go.RowKit Go.Proofs.YthohahcpdgebbaaDoorW.PrintWords Go.Proofs.YthohahcpdgebbaaDoorW.PrintLast Go.Proofs.YthohahcpdgebbaaDoorW.PrintMore
open Go.Proofs.YthohahcpdgebbaaDoor.Th
set_option linter.unusedVariables false
set_option linter.unusedSimpArgs false
def kArcs : Kd (List Arc) := Kd.slice 54 kArc
theorem infoArcs : (Tryd.prog.info? 50).map (fun i => (i.zero, i.size, i.bytes)) = some (some (.slice none 0 0), 1, 24) := by kernel_rfl
theorem int_E {q : Nat} {k : IntKind} {e : Nat} (hq : q ∈ e :: (Kd.int k).E) : q = e := by simpa [Kd.int, Kd.scalar] using hq
theorem arc_E {q e : Nat} (hq : q ∈ e :: kArc.E) : q = e := by simpa [kArc, Kd.iso, Kd.pair, Kd.int, Kd.scalar] using hq
theorem arcs_E {q e : Nat} (hq : q ∈ e :: kArcs.E) : q = e ∨ q = 54 := by
  simpa [kArcs, Kd.slice, kArc, Kd.iso, Kd.pair, Kd.int, Kd.scalar] using hq
theorem ints_other {k : IntKind} {e base : Nat} {ok : Nat → Prop} {W w1 : World} {u v : Value} {xs : List Int} (h : (Kd.int k).R e W base ok u xs) (hn : ∀ q, u.ownBlock = some q → v.ownBlock ≠ some q) (hg : W.grownBy w1 v.ownBlock) : (Kd.int k).R e w1 base ok u xs :=
  Kd.R_mono (Kd.R_grown (Kd.R_tight rfl h) hg (fun q hq e => hn q hq.symm e.symm)) (fun q hq => h.1 q hq.symm)
theorem row_map {α : Type} {d : Kd α} {e base nb : Nat} {ok : Nat → Prop} {w w1 : World} {v : Value} {xs : List α} (h : d.R e w base ok v xs) (hm : ∀ {q t : Nat} {cells : Array Value}, w.heap[q]? = some (.cells cells t (0, 0)) → q ≠ nb) (hg : w.grownBy w1 (some nb)) : d.R e w1 base ok v xs :=
  Kd.R_mono (Kd.R_step (Kd.R_bound h) (fun q hq hlt => hg.block q hlt (fun he => by
    obtain ⟨_, _, _, _, _, cells, hc⟩ := hq
    exact hm hc (by injection he)))) (fun _ hq => hq.1)
structure MS (w : World) (base ob nb : Nat) (okA : Nat → Prop) (bva bvl va vl vo : Value) (arcs : List (List Arc)) (labs order : List Int) : Prop where
  bo : base ≤ ob
  box : w.heap[ob]? = some (.cells #[.int .i64 0, bva, bvl] 28 (0, 0))
  ra : kArcs.R 50 w base okA va arcs
  rl : (Kd.int .i64).R 3 w base (fun _ => True) vl labs
  ro : (Kd.int .i64).R 3 w base (fun _ => True) vo order
  num : MapIs 3 litI w nb order.length (nfun order)
  ne : ∀ q, vo.ownBlock = some q → vl.ownBlock ≠ some q
  bn : base ≤ nb
section
variable {w w' : World} {base ob nb : Nat} {okA : Nat → Prop} {bva bvl va vl vo : Value} {arcs : List (List Arc)} {labs order : List Int}
theorem box_lt {ob : Nat} {c : Array Value} {t : TypeId} {f : Nat × Nat} (h : w.heap[ob]? = some (.cells c t f)) : ob < w.heap.size := by
  rcases Nat.lt_or_ge ob w.heap.size with h1 | h1
  · exact h1
  · rw [Array.getElem?_eq_none h1] at h; cases h
theorem MS.later (h : MS w base ob nb okA bva bvl va vl vo arcs labs order) (hb : Below w.heap.size w w') : MS w' base ob nb okA bva bvl va vl vo arcs labs order :=
  ⟨h.bo, by rw [hb.block ob (box_lt h.box)]; exact h.box, Kd.R_below h.ra hb, Kd.R_below h.rl hb, Kd.R_below h.ro hb, h.num.later hb, h.ne, h.bn⟩
theorem MS.elder (h : MS w base ob nb (fun _ => True) bva bvl va vl vo arcs labs order) {v : Value} (hb : Below w.heap.size w w') (hv : ∀ q, v.ownBlock = some q → w.heap.size ≤ q) : MS w' base ob nb (fun q => some q ≠ v.ownBlock) bva bvl va vl vo arcs labs order := by
  have h2 := h.later hb
  exact ⟨h2.bo, h2.box, Kd.R_mono (Kd.R_below (Kd.R_bound h.ra) hb) (fun q hq e => by have := hv q e.symm; have := hq.2.2.1; omega), h2.rl, h2.ro, h2.num, h2.ne, h2.bn⟩
theorem MS.any (h : MS w base ob nb okA bva bvl va vl vo arcs labs order) : MS w base ob nb (fun _ => True) bva bvl va vl vo arcs labs order :=
  ⟨h.bo, h.box, Kd.R_mono h.ra (fun _ _ => trivial), h.rl, h.ro, h.num, h.ne, h.bn⟩
theorem MS.put {g : Nat} (h : MS w base ob nb okA bva bvl va vl vo arcs labs order) (hk : ∀ q, okA q → q ≠ g) {c : Array Value} (hg : w.heap[g]? = some (.cells c 54 (0, 0))) (j : Nat) (u : Value) : MS (w.setCell ⟨g, j, none⟩ u) base ob nb okA bva bvl va vl vo arcs labs order := by
  refine ⟨h.bo, ?_, Kd.R_far (p := ⟨g, j, none⟩) h.ra (fun q hq => hk q hq) u, Kd.R_set h.rl hg (fun q hq => by rw [int_E hq]; decide) j u, Kd.R_set h.ro hg (fun q hq => by rw [int_E hq]; decide) j u, h.num.setCell (Ne.symm (h.num.ne_cells hg)) u, h.ne, h.bn⟩
  rw [Below.heap_setCell _ _ _ _ (fun e => ty_ne h.box hg (by decide) e)]
  exact h.box
theorem MS.newClass {w1 w2 : World} {vo1 : Value} {c : Int} (h : MS w base ob nb okA bva bvl va vl vo arcs labs order) (hm : MapIs 3 litI w1 nb (order.length + 1) (nfun (order ++ [c]))) (hg1 : w.grownBy w1 (some nb))
    (hW : Below w1.heap.size w1 w2) {w3 : World} (hr : (Kd.int .i64).R 3 w3 base (fun _ => True) vo1 (order ++ [c])) (hg2 : w2.grownBy w3 vo.ownBlock) (hat : vo1.ownBlock = vo.ownBlock ∨ ∃ b, vo1.ownBlock = some b ∧ w2.heap.size ≤ b) :
    MS w3 base ob nb okA bva bvl va vl vo1 arcs labs (order ++ [c]) := by
  have mapNe : ∀ {q e : Nat} {cells : Array Value}, w.heap[q]? = some (.cells cells e (0, 0)) → q ≠ nb := fun hq => h.num.ne_cells hq
  have ro1 := row_map h.ro mapNe hg1
  have ro2 := Kd.R_below ro1 hW
  have rl1 := row_map h.rl mapNe hg1
  have ra1 := row_map h.ra mapNe hg1
  have bx1 : w1.heap[ob]? = some (.cells #[.int .i64 0, bva, bvl] 28 (0, 0)) := by
    rw [hg1.block ob (box_lt h.box) (fun e => mapNe h.box (by injection e))]
    exact h.box
  have bx2 : w2.heap[ob]? = some (.cells #[.int .i64 0, bva, bvl] 28 (0, 0)) := by rw [hW.block ob (box_lt bx1)]; exact bx1
  have hm2 := hm.later hW
  have hne1 : ∀ q, vo1.ownBlock = some q → vl.ownBlock ≠ some q := by
    intro q hq hl
    rcases hat with hat | ⟨b, hb, hle⟩
    · rw [hat] at hq; exact h.ne q hq hl
    · rw [hb] at hq
      injection hq with hq
      have := Kd.R_lt (Kd.R_below rl1 hW) q hl
      omega
  refine ⟨h.bo, ?_, ?_, ?_, hr, ?_, hne1, h.bn⟩
  · rw [hg2.block ob (box_lt bx2) (Kd.R_ne ro2 bx2 (by decide))]; exact bx2
  · exact Kd.R_over' (Kd.R_below ra1 hW) (Kd.R_typed ro2) (fun q hq => by rcases arcs_E hq with h | h <;> rw [h] <;> decide) hg2
  · exact ints_other (Kd.R_below rl1 hW) (fun q hq e => h.ne q e hq) hg2
  · rw [List.length_append, List.length_singleton]
    refine hm2.kept hg2 (fun e => ?_)
    obtain ⟨cells, hc⟩ := Kd.R_typed ro2 nb e.symm
    exact hm2.ne_cells hc rfl
theorem MS.close (h : MS w base ob nb okA bva bvl va vl vo arcs labs order) : MS ((w.setCell ⟨ob, 1, none⟩ va).setCell ⟨ob, 2, none⟩ vl) base ob nb okA va vl va vl vo arcs labs order ∧
    ∀ {c t : Nat} {m : Int → Option Int} {kt : TypeId}, MapIs kt litI w t c m → MapIs kt litI ((w.setCell ⟨ob, 1, none⟩ va).setCell ⟨ob, 2, none⟩ vl) t c m := by
  have h1 : (w.setCell ⟨ob, 1, none⟩ va).heap[ob]? = some (.cells #[.int .i64 0, va, bvl] 28 (0, 0)) := by simp [World.setCell, Array.getElem?_modify, h.box]
  have h2 : ((w.setCell ⟨ob, 1, none⟩ va).setCell ⟨ob, 2, none⟩ vl).heap[ob]? = some (.cells #[.int .i64 0, va, vl] 28 (0, 0)) := by
    simp [World.setCell, Array.getElem?_modify, h.box]
  have eA : ∀ q ∈ 50 :: kArcs.E, q ≠ 28 := fun q hq => by rcases arcs_E hq with h | h <;> rw [h] <;> decide
  have eI : ∀ q ∈ 3 :: (Kd.int .i64).E, q ≠ 28 := fun q hq => by rw [int_E hq]; decide
  refine ⟨⟨h.bo, h2, Kd.R_set (Kd.R_set h.ra h.box eA 1 va) h1 eA 2 vl, Kd.R_set (Kd.R_set h.rl h.box eI 1 va) h1 eI 2 vl, Kd.R_set (Kd.R_set h.ro h.box eI 1 va) h1 eI 2 vl, ?_, h.ne, h.bn⟩, fun hm => ?_⟩
  · have hn := Ne.symm (h.num.ne_cells h.box)
    exact (h.num.setCell (p := ⟨ob, 1, none⟩) hn va).setCell (p := ⟨ob, 2, none⟩) hn vl
  · have hn := Ne.symm (hm.ne_cells h.box)
    exact (hm.setCell (p := ⟨ob, 1, none⟩) hn va).setCell (p := ⟨ob, 2, none⟩) hn vl
theorem own_next {k : IntKind} {e base : Nat} {ok : Nat → Prop} {W w1 : World} {v : Value} {xs : List Int} {s : Int} {g cap H : Nat} (h : (Kd.int k).R e W base ok v xs) (hfresh : ∀ q, W.heap.size ≤ q → ok q) (hH : W.heap.size ≤ H)
    (hown : w1.ownsRow base e 1 (.slice (some ⟨g, 0, none⟩) (xs.length + 1) cap) (xs.length + 1) (encs (Value.int k) xs ++ [.int k s])) (hat : v.ownBlock = some g ∨ g = H) :
    (Kd.int k).R e w1 base ok (.slice (some ⟨g, 0, none⟩) (xs.length + 1) cap) (xs ++ [s]) := by
  refine Kd.R_of_own (enc := Value.int k) (xs := xs ++ [s]) (by simpa [encs] using hown) (fun q hq => ?_)
  have : g = q := by simpa [Value.ownBlock] using hq
  subst this
  rcases hat with hat | hat
  · exact h.1 g hat
  · exact hfresh g (by omega)
theorem map_lt {w : World} {b : Nat} {es : Array MapEntry} {c : Nat} (h : w.heap[b]? = some (.map es c)) : b < w.heap.size := by
  rcases Nat.lt_or_ge b w.heap.size with h1 | h1
  · exact h1
  · rw [Array.getElem?_eq_none h1] at h; cases h
theorem MapIs.same {κ : Type} {kt : TypeId} {lit : κ → Lit} {w w' : World} {b n : Nat} {m : κ → Option Int} (h : MapIs kt lit w b n m) (hs : ∀ (es : Array MapEntry) (c : Nat), w.heap[b]? = some (.map es c) → w'.heap[b]? = some (.map es c)) : MapIs kt lit w' b n m := by
  obtain ⟨D, ⟨es, c, h1, h2⟩, h3⟩ := h
  exact ⟨D, ⟨es, c, hs es c h1, h2⟩, h3⟩
structure Mid (wr W : World) (okA : Nat → Prop) (base ob nb : Nat) (bva bvl va vl vo : Value) (arcs : List (List Arc)) (labs order : List Int) (vL : Value) (l : List Arc) (y : Int) (b1 b2 : Option Nat) : Prop where
  ms : MS W base ob nb okA bva bvl va vl vo arcs labs order
  row : kArc.R 54 W base (fun q => some q = vL.ownBlock) vL l
  t1 : ∀ b, b1 = some b → W.heap[b]? = some (.cells #[vL] 50 (0, 0))
  t2 : ∀ b, b2 = some b → W.heap[b]? = some (.cells #[.int .i64 y] 3 (0, 0)) ∧ vo.ownBlock ≠ some b ∧ vl.ownBlock ≠ some b
  below : Below base wr W
  size : base ≤ W.heap.size
  maps : ∀ (b : Nat) (es : Array MapEntry) (c : Nat), wr.heap[b]? = some (.map es c) → W.heap[b]? = some (.map es c)
section
variable {wr W : World} {vL : Value} {l : List Arc} {y : Int} {b1 b2 : Option Nat}
theorem Mid.cells (h : Mid wr W okA base ob nb bva bvl va vl vo arcs labs order vL l y b1 b2) : W.cell? ⟨ob, 1, none⟩ = some bva ∧ W.cell? ⟨ob, 2, none⟩ = some bvl ∧ W.frozen? ⟨ob, 1, none⟩ = false ∧ W.frozen? ⟨ob, 2, none⟩ = false := by
  have hb := h.ms.box
  refine ⟨?_, ?_, ?_, ?_⟩ <;> simp [World.cell?, World.frozen?, hb]
theorem Mid.drew (h : Mid wr W okA base ob nb bva bvl va vl vo arcs labs order vL l y b1 b2) : Mid wr W.drew okA base ob nb bva bvl va vl vo arcs labs order vL l y b1 b2 :=
  ⟨h.ms.later (below_drew (Below.refl _ _)), Kd.R_drew h.row, h.t1, h.t2, h.below.drew, h.size, h.maps⟩
theorem Mid.a1 (h : Mid wr W okA base ob nb bva bvl va vl vo arcs labs order vL l y none b2) : Mid wr (W.alloc (.cells #[vL] 50)) okA base ob nb bva bvl va vl vo arcs labs order vL l y (some W.heap.size) b2 := by
  refine ⟨h.ms.later (below_alloc (Below.refl _ _) _), Kd.R_alloc h.row _, fun b hb => ?_, fun b hb => ?_, h.below.alloc h.size _, by simp; have := h.size; omega, fun b es c hb => by
    have h1 := h.maps b es c hb
    rw [heap_alloc_old _ _ (map_lt h1)]; exact h1⟩
  · injection hb with hb
    subst hb
    exact heap_alloc_new W _
  · obtain ⟨h1, h2⟩ := h.t2 b hb
    exact ⟨by rw [heap_alloc_old _ _ (box_lt h1)]; exact h1, h2⟩
theorem Mid.a2 (h : Mid wr W okA base ob nb bva bvl va vl vo arcs labs order vL l y b1 none) : Mid wr (W.alloc (.cells #[.int .i64 y] 3)) okA base ob nb bva bvl va vl vo arcs labs order vL l y b1 (some W.heap.size) := by
  refine ⟨h.ms.later (below_alloc (Below.refl _ _) _), Kd.R_alloc h.row _, fun b hb => ?_, fun b hb => ?_, h.below.alloc h.size _, by simp; have := h.size; omega, fun b es c hb => by
    have h1 := h.maps b es c hb
    rw [heap_alloc_old _ _ (map_lt h1)]; exact h1⟩
  · have h1 := h.t1 b hb
    rw [heap_alloc_old _ _ (box_lt h1)]; exact h1
  · injection hb with hb
    subst hb
    refine ⟨heap_alloc_new W _, fun e => ?_, fun e => ?_⟩
    · have := Kd.R_lt h.ms.ro _ e; omega
    · have := Kd.R_lt h.ms.rl _ e; omega
theorem Mid.lay1 {B : Nat} (h : Mid wr W okA base ob nb bva bvl va vl vo arcs labs order vL l y none b2) (hB : W.heap.size = B) : Mid wr (W.alloc (.cells #[vL] 50)) okA base ob nb bva bvl va vl vo arcs labs order vL l y (some B) b2 := by
  subst hB
  exact h.a1
theorem Mid.lay2 {B : Nat} (h : Mid wr W okA base ob nb bva bvl va vl vo arcs labs order vL l y b1 none) (hB : W.heap.size = B) : Mid wr (W.alloc (.cells #[.int .i64 y] 3)) okA base ob nb bva bvl va vl vo arcs labs order vL l y b1 (some B) := by
  subst hB
  exact h.a2
theorem Mid.appA {b : Nat} {w1 : World} {g cap : Nat} {inner : List Value} (h : Mid wr W (fun q => some q ≠ vL.ownBlock) base ob nb bva bvl va vl vo arcs labs order vL l y (some b) b2) (hr : Reps (kArcs.M W base (fun k => some k ≠ vL.ownBlock ∧ some k ≠ va.ownBlock)) 1 arcs inner)
    (hown : w1.ownsRow base 50 1 (.slice (some ⟨g, 0, none⟩) (arcs.length + 1) cap) (arcs.length + 1) (inner ++ [vL])) (hg : W.grownBy w1 va.ownBlock) (hat : va.ownBlock = some g ∨ g = W.heap.size) :
    Mid wr w1 (fun _ => True) base ob nb bva bvl (.slice (some ⟨g, 0, none⟩) (arcs.length + 1) cap) vl vo (arcs ++ [l]) labs order vL l y none b2 := by
  have ra := h.ms.ra
  have tA := Kd.R_typed ra
  have hrow : ∀ k, some k = vL.ownBlock → some k ≠ va.ownBlock := by
    intro k hk
    obtain ⟨cells, hc⟩ := Kd.R_typed h.row k hk.symm
    exact Kd.R_ne ra hc (by decide)
  refine ⟨⟨h.ms.bo, ?_, ?_, Kd.R_over' h.ms.rl tA (fun q hq => by rw [int_E hq]; decide) hg, Kd.R_over' h.ms.ro tA (fun q hq => by rw [int_E hq]; decide) hg, ?_, h.ms.ne, h.ms.bn⟩, ?_, (fun b hb => by cases hb), fun b hb => ?_, ?_, Nat.le_trans h.size hg.size, fun b es c hb => by
    have h1 := h.maps b es c hb
    rw [hg.block b (map_lt h1) (fun e => ?_)]
    · exact h1
    · obtain ⟨cells, hc⟩ := tA b e.symm
      rw [h1] at hc
      cases hc⟩
  · rw [hg.block ob (box_lt h.ms.box) (Kd.R_ne ra h.ms.box (by decide))]
    exact h.ms.box
  · refine Kd.R_appended (d := kArcs) (ok := fun _ => True) (okp := fun q => some q = vL.ownBlock) (cs := [vL]) (v := va) (fun _ _ => trivial) (hr.imp_ (fun _ _ hq => kArcs.M_mono (fun k hk => ⟨trivial, hk.2⟩) hq)) ⟨vL, rfl, h.row⟩ (fun k hk => ⟨trivial, hrow k hk⟩) (fun _ _ => trivial) hown hg ?_
    rcases hat with hat | hat
    · exact .inl (by rw [hat]; rfl)
    · exact .inr ⟨g, rfl, by omega⟩
  · refine h.ms.num.kept hg (fun e => ?_)
    obtain ⟨cells, hc⟩ := tA nb e.symm
    exact h.ms.num.ne_cells hc rfl
  · exact Kd.R_over' h.row tA (fun q hq => by
      have hq' : q = 54 := by simpa [kArc, Kd.iso, Kd.pair, Kd.int, Kd.scalar] using hq
      rw [hq']; decide) hg
  · obtain ⟨h1, h2⟩ := h.t2 b hb
    exact ⟨by rw [hg.block b (box_lt h1) (Kd.R_ne ra h1 (by decide))]; exact h1, h2⟩
  · exact h.below.grown hg h.size (Kd.R_base ra)
theorem Mid.appB {b : Nat} {w1 : World} {g cap : Nat} (h : Mid wr W okA base ob nb bva bvl va vl vo arcs labs order vL l y b1 (some b))
    (hown : w1.ownsRow base 3 1 (.slice (some ⟨g, 0, none⟩) (labs.length + 1) cap) (labs.length + 1) (encs (Value.int .i64) labs ++ [.int .i64 y])) (hg : W.grownBy w1 vl.ownBlock) (hat : vl.ownBlock = some g ∨ g = W.heap.size) :
    Mid wr w1 okA base ob nb bva bvl va (.slice (some ⟨g, 0, none⟩) (labs.length + 1) cap) vo arcs (labs ++ [y]) order vL l y b1 none := by
  have rl := h.ms.rl
  have tB := Kd.R_typed rl
  refine ⟨⟨h.ms.bo, ?_, Kd.R_over' h.ms.ra tB (fun q hq => by rcases arcs_E hq with h | h <;> rw [h] <;> decide) hg, own_next rl (fun _ _ => trivial) (Nat.le_refl _) hown hat, ints_other h.ms.ro (fun q hq e => h.ms.ne q hq e) hg, ?_, ?_, h.ms.bn⟩, ?_, fun b hb => ?_, (fun b hb => by cases hb), ?_, Nat.le_trans h.size hg.size, fun b es c hb => by
    have h1 := h.maps b es c hb
    rw [hg.block b (map_lt h1) (fun e => ?_)]
    · exact h1
    · obtain ⟨cells, hc⟩ := tB b e.symm
      rw [h1] at hc
      cases hc⟩
  · rw [hg.block ob (box_lt h.ms.box) (Kd.R_ne rl h.ms.box (by decide))]
    exact h.ms.box
  · refine h.ms.num.kept hg (fun e => ?_)
    obtain ⟨cells, hc⟩ := tB nb e.symm
    exact h.ms.num.ne_cells hc rfl
  · intro q hq e
    have e2 : g = q := by simpa [Value.ownBlock] using e
    subst e2
    rcases hat with hat | hat
    · exact h.ms.ne g hq hat
    · have := Kd.R_lt h.ms.ro g hq
      omega
  · exact Kd.R_over' h.row tB (fun q hq => by
      have hq' : q = 54 := by simpa [kArc, Kd.iso, Kd.pair, Kd.int, Kd.scalar] using hq
      rw [hq']; decide) hg
  · have h1 := h.t1 b hb
    rw [hg.block b (box_lt h1) (Kd.R_ne rl h1 (by decide))]; exact h1
  · exact h.below.grown hg h.size (Kd.R_base rl)
section
variable {ops : Array Oper} {o : Oper} {a : Act} {K : Act → World → Prop} {Q : Exit → Act → World → Prop} {E : Prop}
set_option maxRecDepth 100000 in
theorem Mid.stepA {b : Nat} (hgd : o.guard = none) (s x : Operand) (ho : o.op = .call { callee := .builtin .append, args := #[s, x], argTypes := #[25, 25] })
    (h : Mid wr W (fun q => some q ≠ vL.ownBlock) base ob nb bva bvl va vl vo arcs labs order vL l y (some b) b2) (hs : a.eval s = va) (hx : a.eval x = .slice (some ⟨b, 0, none⟩) 1 1) (hl : arcs.length ≤ 100000)
    (hk : ∀ va1 w1, Mid wr w1 (fun _ => True) base ob nb bva bvl va1 vl vo (arcs ++ [l]) labs order vL l y none b2 → K (a.put o.dst va1) w1) :
    if Region.wanted o (yielded ops a.tmps) = true then Oper.wp Tryd.prog o a W K Q else E := by
  obtain ⟨h0, inner, hown, hr⟩ := h.ms.ra
  obtain ⟨i0, hi0, hz0, hz1, hz2⟩ := info_parts infoArcs
  refine step_append_lies W hgd s x 25 ho base 50 i0 (.slice none 0 0) 1 24 Tryd.underlying25 hi0 hz0 hz1 hz2 rfl (by omega) va arcs.length inner hs hown ⟨b, 0, none⟩ 1 1 [vL] hx rfl
    (World.news_of_block (cs := #[vL]) (h.t1 b rfl)) ?_ (by omega) (by unfold maxLen; omega) (by omega) h.size W.heap.size rfl (fun g cap w1 hown1 hgrow hat _ => hk _ _ (h.appA hr hown1 hgrow hat))
  intro u hu
  rw [List.mem_singleton.1 hu]
  exact (Kd.R_val h.row).2
set_option maxRecDepth 100000 in
theorem Mid.stepB {b : Nat} (hgd : o.guard = none) (s x : Operand) (ho : o.op = .call { callee := .builtin .append, args := #[s, x], argTypes := #[26, 26] })
    (h : Mid wr W okA base ob nb bva bvl va vl vo arcs labs order vL l y b1 (some b)) (hs : a.eval s = vl) (hx : a.eval x = .slice (some ⟨b, 0, none⟩) 1 1) (hl : labs.length ≤ 100000)
    (hk : ∀ vl1 w1, Mid wr w1 okA base ob nb bva bvl va vl1 vo arcs (labs ++ [y]) order vL l y b1 none → K (a.put o.dst vl1) w1) :
    if Region.wanted o (yielded ops a.tmps) = true then Oper.wp Tryd.prog o a W K Q else E := by
  have hown := Kd.own_of_R h.ms.rl
  obtain ⟨i0, hi0, hz0, hz1, hz2⟩ := info_parts infoInt
  refine step_append_lies W hgd s x 26 ho base 3 i0 (.int .i64 0) 1 8 Tryd.underlying26 hi0 hz0 hz1 hz2 rfl (by omega) vl labs.length _ hs hown ⟨b, 0, none⟩ 1 1 [.int .i64 y] hx rfl
    (World.news_of_block (cs := #[.int .i64 y]) (h.t2 b rfl).1) ?_ (by omega) (by unfold maxLen; omega) (by omega) h.size W.heap.size rfl (fun g cap w1 hown1 hgrow hat _ => hk _ _ (h.appB hown1 hgrow hat))
  intro u hu
  rw [List.mem_singleton.1 hu]
  rfl
end
end
end
end Go.Proofs.YthohahcpdgebbaaDoor.Wk
namespace Go.Proofs.YthohahcpdgebbaaDoor.Wk
open Go.RowKit Go.Proofs.YthohahcpdgebbaaDoorW.PrintWords Go.Proofs.YthohahcpdgebbaaDoorW.PrintLast Go.Proofs.YthohahcpdgebbaaDoorW.PrintMore
open Go.Proofs.YthohahcpdgebbaaDoor.Th Go.Maps
set_option linter.unusedVariables false
set_option linter.unusedSimpArgs false
def MapB (w : World) (b n : Nat) (S : List Int) : Prop :=
  ∃ D : DataW Unit, w.ownsMap Tryd.prog 3 (plainElem Tryd.prog 4) b n D ∧ Maps.Tidy D ∧ Maps.size D = n ∧ (∀ k, Maps.has D (litI k) = decide (k ∈ S)) ∧ ∀ k ∈ S, D.atKey (litI k) (.lit (.bool false)) = .lit (.bool true)
section
variable {w w' : World} {b n : Nat} {S : List Int}
theorem mapB_made (w : World) : MapB (w.alloc (.map #[] 0)) w.heap.size 0 [] :=
  ⟨.map [], World.ownsMap_made _ _ _ _, Maps.tidy_empty, rfl, fun k => by simp [Maps.has_eq], fun k hk => by cases hk⟩
theorem MapB.lt (h : MapB w b n S) : b < w.heap.size := by
  obtain ⟨D, h1, _⟩ := h
  exact h1.lt
theorem MapB.kept (h : MapB w b n S) {row : Option Nat} (hg : w.grownBy w' row) (hne : some b ≠ row) : MapB w' b n S := by
  obtain ⟨D, h1, h2⟩ := h
  exact ⟨D, h1.kept hg hne, h2⟩
theorem MapB.later (h : MapB w b n S) (hb : Below w.heap.size w w') : MapB w' b n S :=
  h.kept (row := none) ⟨hb.os, hb.tape, hb.output, hb.size, fun k hk _ => hb.block k hk⟩ (by simp)
theorem MapB.ne_cells (h : MapB w b n S) {g : Nat} {c : Array Value} {t : TypeId} {f : Nat × Nat} (hg : w.heap[g]? = some (.cells c t f)) : g ≠ b := by
  obtain ⟨D, ⟨es, cl, h1, _⟩, _⟩ := h
  rintro rfl
  rw [h1] at hg
  cases hg
theorem zeroBool (w : World) : (zeroValue 4).run Tryd.prog w = .ok (.bool false) w := Tryd.zeroValue4 w
set_option maxRecDepth 100000 in
theorem plainElem_bool_inv {v : Value} {x : Bool} {ps : List MemPlace} (h : plainElem (H := Unit) Tryd.prog 4 v = some (.lit (.bool x), ps)) : v = .bool x := by
  unfold plainElem at h
  rw [Tryd.underlying4] at h
  cases v <;> simp at h
  obtain ⟨h, _⟩ := h
  rw [h]
set_option maxRecDepth 100000 in
theorem MapB.look (h : MapB w b n S) {t : TypeId} (ht : Tryd.prog.underlying t = some (.map 3 4)) {key : Value} {k : Int} (hkey : keyOf Tryd.prog 3 key = some (litI k)) :
    (Instr.lookup t (.map (some b)) key false).run Tryd.prog w = .ok (.bool (decide (k ∈ S))) w := by
  obtain ⟨D, h1, h2, h3, h4, h5⟩ := h
  obtain ⟨v, ps, hrun, hv⟩ := h1.lookup keyedI ht (zeroBool w) (plainElem_bool Tryd.underlying4 false) hkey
  by_cases hk : k ∈ S
  · rw [h5 k hk] at hv
    rw [hrun, plainElem_bool_inv hv, decide_eq_true hk]
  · have hh : Maps.has D (litI k) = false := by rw [h4 k, decide_eq_false hk]
    rw [Maps.atKey_of_not_has hh] at hv
    rw [hrun, plainElem_bool_inv hv, decide_eq_false hk]
variable {ops : Array Oper} {rest : List Oper} {o : Oper} {a : Act} {Q : Exit → Act → World → Prop}
set_option maxRecDepth 100000 in
theorem MapB.upd (h : MapB w b n S) {t : TypeId} (ht : Tryd.prog.underlying t = some (.map 3 4)) (hn : n < 1000000) {key : Value} {k : Int} (hkey : keyOf Tryd.prog 3 key = some (litI k)) (hv : k ∉ S) :
    ∃ w', (Instr.mapUpdate t (.map (some b)) key (.bool true)).run Tryd.prog w = .ok () w' ∧ MapB w' b (n + 1) (S ++ [k]) ∧ w.grownBy w' (some b) := by
  obtain ⟨D, h1, h2, h3, h4, h5⟩ := h
  have hh : Maps.has D (litI k) = false := by rw [h4 k, decide_eq_false hv]
  obtain ⟨w', hrun, ho, hgr⟩ := h1.update keyedI ht (by unfold maxLen; omega) hkey (plainElem_bool Tryd.underlying4 true)
  refine ⟨w', hrun, ⟨_, ho, h2.put (litI_key k) _, by rw [Maps.size_put h2, hh, h3]; rfl, fun k' => ?_, fun k' hk' => ?_⟩, hgr⟩
  · by_cases e : k' = k
    · subst e
      rw [Maps.has_put_same h2.isMap (litI_key _)]
      simp
    · rw [Maps.has_put_other (fun h => e (litI_inj _ _ h)), h4 k']
      simp [e]
  · by_cases e : k' = k
    · subst e
      rw [Maps.atKey_put_same h2.isMap (litI_key _)]
    · rw [Maps.atKey_put_other (fun h => e (litI_inj _ _ h))]
      exact h5 k' (by simpa [e] using hk')
theorem wpList_newB (hg : o.guard = none) (x y z : Operand) (t : TypeId) (hop : o.op = Op.mapUpdate t x y z ∨ o.op = Op.insert t x y z) (ht : Tryd.prog.underlying t = some (.map 3 4))
    (hm : a.eval x = .map (some b)) (h : MapB w b n S) (hn : n < 1000000) (key : Value) (k : Int) (hx : a.eval y = key) (hkey : keyOf Tryd.prog 3 key = some (litI k)) (hv : k ∉ S) (hz : a.eval z = .bool true)
    (hK : ∀ w', MapB w' b (n + 1) (S ++ [k]) → w.grownBy w' (some b) → wpList Tryd.prog ops Q rest (a.put o.dst undef) w') : wpList Tryd.prog ops Q (o :: rest) a w := by
  refine wpList_plain hg fun K' hK' => ?_
  obtain ⟨w', hrun, r1, r2⟩ := h.upd ht hn hkey hv
  unfold Oper.wp
  rcases hop with hop | hop
  · simp [execOp, hop, hm, hx, hz, hrun, Result.andThen]
    exact hK' _ _ (hK w' r1 r2)
  · simp [execOp, hop, hm, hx, hz, hrun, Result.andThen]
    exact hK' _ _ (hK w' r1 r2)
end
end Go.Proofs.YthohahcpdgebbaaDoor.Wk
