/- Rules that walk through the short form, one operation each.
   Conditions: those that each rule names. -/
import Derived.Test.YtdfmdclfnhgjiaaCanI
set_option linter.unusedVariables false
set_option linter.unusedSimpArgs false
namespace Go.Proofs.Ytdfmdclfnhgjiaa.Can
open Go

theorem wrap64 {x : Int} (h1 : -9223372036854775808 ≤ x) (h2 : x ≤ 9223372036854775807) : IntKind.wrap .i64 x = x := by
  simp [IntKind.wrap, IntKind.bits, IntKind.signed]
  omega

/-! ### Nothing is looked at ahead of its turn: what comes later is held by a token that hangs on it -/

inductive Tok {α : Type} (K : α) where
  | mk
def stepT (P : Program) (sh : Sh) (vs : List Value) (h : CH) (K : Value → CH → Prop) (_ : Tok K) : Prop := stepW P sh vs h K
def callT (P : Program) (f : FuncId) (vs : List Value) (h : CH) (K : Value → CH → Prop) (_ : Tok K) : Prop := callW P f vs h K
def loopT (P : Program) (c : MC) (Q : KT) (ρ : Nat → Value) (h : CH) (_ : Tok (c, Q)) : Prop := wpC P (.loop c) Q ρ h
def oT (o : Option Value) (K : Value → Prop) (_ : Tok K) : Prop := oW o K

def ifW (t : Bool) (A B : Prop) (_ : Tok (A, B)) : Prop := if t = true then A else B
theorem ifW_true {A B : Prop} {u : Tok (A, B)} : ifW true A B u = A := rfl
theorem ifW_false {A B : Prop} {u : Tok (A, B)} : ifW false A B u = B := rfl
theorem ifW_intro {t : Bool} {A B : Prop} {u : Tok (A, B)} (a : t = true → A) (b : t = false → B) : ifW t A B u := by
  cases t
  · exact b rfl
  · exact a rfl
theorem ifW_t {t : Bool} {A B : Prop} {u : Tok (A, B)} (e : t = true) (a : A) : ifW t A B u := by rw [e]; exact a
theorem ifW_f {t : Bool} {A B : Prop} {u : Tok (A, B)} (e : t = false) (b : B) : ifW t A B u := by rw [e]; exact b
def condW (v : Value) (A B : Prop) (_ : Tok (A, B)) : Prop :=
  match isB v with
  | some t => if t = true then A else B
  | none => False
theorem condW_bool {t : Bool} {A B : Prop} {u : Tok (A, B)} : condW (.bool t) A B u = ifW t A B u := rfl
def guardW (v : Value) (b : Bool) (A B : Prop) (_ : Tok (A, B)) : Prop := if isB v = some b then A else B
theorem guardW_t {t : Bool} {A B : Prop} {u : Tok (A, B)} : guardW (.bool t) true A B u = ifW t A B u := by cases t <;> simp [guardW, ifW, isB]
theorem guardW_f {t : Bool} {A B : Prop} {u : Tok (A, B)} : guardW (.bool t) false A B u = ifW t B A .mk := by cases t <;> simp [guardW, ifW, isB]

section
variable {P : Program} {Q : KT} {ρ : Nat → Value} {h : CH} {K : (Nat → Value) → CH → Prop} {L : Value → CH → Prop}

theorem wpC_skip : wpC P .skip Q ρ h = Q .normal ρ h := rfl
theorem wpC_reg {l : List MI} : wpC P (.reg l) Q ρ h = opsW P l ρ h (Q .normal) := rfl
theorem wpC_draw {l : List (MI × List MI)} : wpC P (.draw l) Q ρ h = drawW P l ρ h (Q .normal) := rfl
theorem wpC_seq {a b : MC} : wpC P (.seq a b) Q ρ h = wpC P a (seqK (wpC P b Q) Q) ρ h := rfl
theorem wpC_cond {c : Operand} {a b : MC} : wpC P (.cond c a b) Q ρ h = condW (ev ρ c) (wpC P a Q ρ h) (wpC P b Q ρ h) .mk := rfl
theorem wpC_loopT {a : MC} : wpC P (.loop a) Q ρ h = loopT P a Q ρ h .mk := rfl
theorem wpC_block {i : Nat} {a : MC} : wpC P (.block i a) Q ρ h = wpC P a (blockK i Q) ρ h := rfl
theorem wpC_exit {i : Nat} : wpC P (.exit i) Q ρ h = Q (.exit i) ρ h := rfl
theorem wpC_ret : wpC P .ret Q ρ h = Q .ret ρ h := rfl
theorem seqK_normal {n : (Nat → Value) → CH → Prop} : seqK n Q .normal ρ h = n ρ h := rfl
theorem seqK_exit {n : (Nat → Value) → CH → Prop} {i : Nat} : seqK n Q (.exit i) ρ h = Q (.exit i) ρ h := rfl
theorem seqK_ret {n : (Nat → Value) → CH → Prop} : seqK n Q .ret ρ h = Q .ret ρ h := rfl
theorem blockK_normal {i : Nat} : blockK i Q .normal ρ h = Q .normal ρ h := rfl
theorem blockK_exit {i j : Nat} : blockK i Q (.exit j) ρ h = if j = i then Q .normal ρ h else Q (.exit j) ρ h := rfl
theorem blockK_ret {i : Nat} : blockK i Q .ret ρ h = Q .ret ρ h := rfl
theorem opsW_nil : opsW P [] ρ h K = K ρ h := rfl
theorem opsW_cons {d : Option Nat} {sh : Sh} {xs : List Operand} {r : List MI} : opsW P (⟨d, sh, xs, none⟩ :: r) ρ h K = stepT P sh (xs.map (ev ρ)) h (fun v h' => opsW P r (upd ρ d v) h' K) .mk := rfl
theorem opsW_guard {d : Option Nat} {sh : Sh} {xs : List Operand} {t : Nat} {b : Bool} {r : List MI} : opsW P (⟨d, sh, xs, some (t, b)⟩ :: r) ρ h K = guardW (ρ t) b (stepT P sh (xs.map (ev ρ)) h (fun v h' => opsW P r (upd ρ d v) h' K) .mk) (opsW P r (upd ρ d undef) h K) .mk := rfl
theorem drawW_nil : drawW P [] ρ h K = K ρ h := rfl
theorem drawW_cons {d : Option Nat} {sh : Sh} {xs : List Operand} {r : List (MI × List MI)} : drawW P ((⟨d, sh, xs, none⟩, []) :: r) ρ h K = stepT P sh (xs.map (ev ρ)) h (fun v h' => drawW P r (upd ρ d v) h' K) .mk := by
  simp [drawW, reW, stepT]
theorem drawW_re {d : Option Nat} {sh : Sh} {xs : List Operand} {m : MI} {e : List MI} {r : List (MI × List MI)} : drawW P ((⟨d, sh, xs, none⟩, m :: e) :: r) ρ h K = stepT P sh (xs.map (ev ρ)) h (fun v h' => reW (m :: e) (upd ρ d v) h' ∧ drawW P r (upd ρ d v) h' K) .mk := rfl
theorem drawW_guard {d : Option Nat} {sh : Sh} {xs : List Operand} {t : Nat} {b : Bool} {e : List MI} {r : List (MI × List MI)} : drawW P ((⟨d, sh, xs, some (t, b)⟩, e) :: r) ρ h K = guardW (ρ t) b (stepT P sh (xs.map (ev ρ)) h (fun v h' => reW e (upd ρ d v) h' ∧ drawW P r (upd ρ d v) h' K) .mk) (reW e (upd ρ d undef) h ∧ drawW P r (upd ρ d undef) h K) .mk := rfl
theorem reW_nil : reW [] ρ h = True := rfl
theorem reW_cons {d : Nat} {sh : Sh} {xs : List Operand} {e : List MI} : reW (⟨some d, sh, xs, none⟩ :: e) ρ h = (readC sh (xs.map (ev ρ)) h = some (ρ d) ∧ reW e ρ h) := rfl
theorem reW_guard {d : Nat} {sh : Sh} {xs : List Operand} {t : Nat} {b : Bool} {e : List MI} : reW (⟨some d, sh, xs, some (t, b)⟩ :: e) ρ h = (guardW (ρ t) b (readC sh (xs.map (ev ρ)) h = some (ρ d)) True .mk ∧ reW e ρ h) := rfl

theorem ev_tmp {t : Nat} : ev ρ (.tmp t) = ρ t := rfl
theorem ev_const {v : Value} : ev ρ (.const v) = v := rfl
theorem ev_func {f : FuncId} : ev ρ (.func f) = .func (.func f) #[] #[] := rfl
theorem upd_none {v : Value} : upd ρ none v = ρ := rfl
theorem upd_get {d t : Nat} {v : Value} : upd ρ (some d) v t = if t = d then v else ρ t := rfl

theorem oT_some {v : Value} {K : Value → Prop} {u : Tok K} : oT (some v) K u = K v := rfl
theorem oW_some {v : Value} {K : Value → Prop} : oW (some v) K = K v := rfl
theorem entry_0 {a : Value} {r : List Value} : entry (a :: r) 0 = a := rfl
theorem entry_1 {a b : Value} {r : List Value} : entry (a :: b :: r) 1 = b := rfl
theorem entry_2 {a b c : Value} {r : List Value} : entry (a :: b :: c :: r) 2 = c := rfl
theorem entry_3 {a b c d : Value} {r : List Value} : entry (a :: b :: c :: d :: r) 3 = d := rfl
theorem entry_4 {a b c d e : Value} {r : List Value} : entry (a :: b :: c :: d :: e :: r) 4 = e := rfl
theorem hW_some {v : CH} {K : CH → Prop} : hW (some v) K = K v := rfl
theorem pW_some {v : Value} {K : Value → CH → Prop} : pW (some (v, h)) K = K v h := rfl

/-! ### One operation each -/

theorem s_mov {x : Value} {u : Tok L} : stepT P .mov [x] h L u = L x h := rfl
theorem s_pick {c : Bool} {a b : Value} {u : Tok L} : stepT P .pick [.bool c, a, b] h L u = L (if c = true then a else b) h := rfl
theorem s_add {a b : Int} {u : Tok L} : stepT P (.bin .add) [.int .i64 a, .int .i64 b] h L u = L (.int .i64 (IntKind.wrap .i64 (a + b))) h := rfl
theorem s_sub {a b : Int} {u : Tok L} : stepT P (.bin .sub) [.int .i64 a, .int .i64 b] h L u = L (.int .i64 (IntKind.wrap .i64 (a - b))) h := rfl
theorem s_mul {a b : Int} {u : Tok L} : stepT P (.bin .mul) [.int .i64 a, .int .i64 b] h L u = L (.int .i64 (IntKind.wrap .i64 (a * b))) h := rfl
theorem s_quo {k : IntKind} {a b : Int} (hb : b ≠ 0) {u : Tok L} : stepT P (.bin .quo) [.int k a, .int k b] h L u = L (.int k (k.wrap (a.tdiv b))) h := by simp [stepT, stepW, pureC, cbin, cint, oW, hb]
theorem s_rem {k : IntKind} {a b : Int} (hb : b ≠ 0) {u : Tok L} : stepT P (.bin .rem) [.int k a, .int k b] h L u = L (.int k (a.tmod b)) h := by simp [stepT, stepW, pureC, cbin, cint, oW, hb]
theorem s_eql {k : IntKind} {a b : Int} {u : Tok L} : stepT P (.bin .eql) [.int k a, .int k b] h L u = L (.bool (a == b)) h := by simp [stepT, stepW, pureC, cbin, cint, oW]
theorem s_neq {k : IntKind} {a b : Int} {u : Tok L} : stepT P (.bin .neq) [.int k a, .int k b] h L u = L (.bool (a != b)) h := by simp [stepT, stepW, pureC, cbin, cint, oW]
theorem s_lss {k : IntKind} {a b : Int} {u : Tok L} : stepT P (.bin .lss) [.int k a, .int k b] h L u = L (.bool (a < b)) h := by simp [stepT, stepW, pureC, cbin, cint, oW]
theorem s_leq {k : IntKind} {a b : Int} {u : Tok L} : stepT P (.bin .leq) [.int k a, .int k b] h L u = L (.bool (a ≤ b)) h := by simp [stepT, stepW, pureC, cbin, cint, oW]
theorem s_gtr {k : IntKind} {a b : Int} {u : Tok L} : stepT P (.bin .gtr) [.int k a, .int k b] h L u = L (.bool (a > b)) h := by simp [stepT, stepW, pureC, cbin, cint, oW]
theorem s_geq {k : IntKind} {a b : Int} {u : Tok L} : stepT P (.bin .geq) [.int k a, .int k b] h L u = L (.bool (a ≥ b)) h := by simp [stepT, stepW, pureC, cbin, cint, oW]
theorem s_sadd {a b : ByteArray} (hb : a.size + b.size ≤ 9223372036854775807) {u : Tok L} : stepT P (.bin .add) [.string a, .string b] h L u = L (.string (a ++ b)) h := by simp [stepT, stepW, pureC, cbin, cstr, oW, hb]
theorem toList_beq {a b : ByteArray} : (a.toList == b.toList) = decide (a = b) := by
  rw [Bool.eq_iff_iff, decide_eq_true_eq, beq_iff_eq]
  constructor
  · intro e
    rw [ByteArray.toList_eq, ByteArray.toList_eq] at e
    cases a; cases b
    simp only [ByteArray.mk.injEq]
    exact Array.toList_inj.1 e
  · rintro rfl; rfl
theorem s_seql {a b : ByteArray} {u : Tok L} : stepT P (.bin .eql) [.string a, .string b] h L u = L (.bool (decide (a = b))) h := by simp only [stepT, stepW, pureC, cbin, cstr, oW, toList_beq]
theorem s_sneq {a b : ByteArray} {u : Tok L} : stepT P (.bin .neq) [.string a, .string b] h L u = L (.bool (!decide (a = b))) h := by simp only [stepT, stepW, pureC, cbin, cstr, oW, toList_beq]
theorem s_eqB {a b : Bool} {u : Tok L} : stepT P (.eqB false) [.bool a, .bool b] h L u = L (.bool (a == b)) h := rfl
theorem s_neB {a b : Bool} {u : Tok L} : stepT P (.eqB true) [.bool a, .bool b] h L u = L (.bool (a != b)) h := rfl
theorem s_not {a : Bool} {u : Tok L} : stepT P (.un .not) [.bool a] h L u = L (.bool !a) h := rfl
theorem s_neg {k : IntKind} {a : Int} {u : Tok L} : stepT P (.un .neg) [.int k a] h L u = L (.int k (k.wrap (0 - a))) h := rfl
theorem s_convI {k k' : IntKind} {a : Int} {u : Tok L} : stepT P (.convI k) [.int k' a] h L u = L (.int k (k.wrap a)) h := rfl
theorem s_convS {a : ByteArray} {u : Tok L} : stepT P .convS [.string a] h L u = L (.string a) h := rfl
theorem s_ext {i : Nat} {vs : Array Value} {u : Tok L} : stepT P (.ext i) [.tuple vs] h L u = oT (vs[i]?) (fun v => L v h) .mk := rfl
theorem s_fld1 {off n : Nat} {cs : Array Value} {u : Tok L} : stepT P (.fld false off n) [.agg cs] h L u = oT (cs[off]?) (fun v => L v h) .mk := rfl
theorem s_fldA {off n : Nat} {cs : Array Value} {u : Tok L} : stepT P (.fld true off n) [.agg cs] h L u = L (.agg (cs.extract off (off + n))) h := rfl
theorem s_lenS {a : ByteArray} {u : Tok L} : stepT P .lenS [.string a] h L u = L (.int .i64 a.size) h := rfl
theorem s_lenL {a : Option Addr} {n c : Nat} {u : Tok L} : stepT P .lenL [.slice a n c] h L u = L (.int .i64 n) h := rfl
theorem s_faddr {off n o : Nat} {u : Tok L} : stepT P (.faddr off) [.pointer (some ⟨n, o, none⟩)] h L u = L (.pointer (some ⟨n, o + off, none⟩)) h := rfl
theorem s_iaddr {k n o len cap : Nat} {kd : IntKind} {i : Int} (h1 : 0 ≤ i) (h2 : i < len) {u : Tok L} : stepT P (.iaddr k) [.slice (some ⟨n, o, none⟩) len cap, .int kd i] h L u = L (.pointer (some ⟨n, o + i.toNat * k, none⟩)) h := by
  simp [stepT, stepW, pureC, oW, h1, h2]
theorem s_load1 {n o : Nat} {c : List Value} {k : Nat} {p q : Bool} (e : h.at_ n = .cells c k p q) {u : Tok L} : stepT P (.load false 1) [.pointer (some ⟨n, o, none⟩)] h L u = oT (c[o]?) (fun v => L v h) .mk := by
  simp only [stepT, stepW, readC, cellsAt, e]
  by_cases ho : o + 1 ≤ c.length
  · rw [if_pos ho]; simp [List.getElem?_take, oT]
  · rw [if_neg ho]; rw [List.getElem?_eq_none (by omega)]; rfl
theorem s_loadA {n o m : Nat} {c : List Value} {k : Nat} {p q : Bool} (e : h.at_ n = .cells c k p q) (ho : o + m ≤ c.length) {u : Tok L} : stepT P (.load true m) [.pointer (some ⟨n, o, none⟩)] h L u = L (.agg ((c.drop o).take m).toArray) h := by
  simp [stepT, stepW, readC, cellsAt, e, ho, oW]
theorem s_alloc {z : List Value} {k : Nat} {u : Tok L} : stepT P (.alloc z k) [] h L u = L (.pointer (some ⟨h.size, 0, none⟩)) (h.push (.cells z k false true)) := rfl
theorem s_box {x : Array Value} {k : Nat} (e : x.toList.all (·.oneCell') = true) {u : Tok L} : stepT P (.box k) [.agg x] h L u = L (.pointer (some ⟨h.size, 0, none⟩)) (h.push (.cells x.toList k false true)) := by
  have e2 : (Value.agg x).cells.toList.all (·.oneCell') = true := e
  simp only [stepT, stepW, newC, e2, if_true, nW]; rfl
theorem s_mks {k b : Nat} {z : List Value} {l c : Int} {kd kd' : IntKind} (h1 : 0 ≤ l) (h2 : l ≤ c) (h3 : c * b ≤ 140737488351232) (h4 : c ≤ 140737488351232) {u : Tok L} :
    stepT P (.mks k b z) [.int kd l, .int kd' c] h L u = L (.slice (some ⟨h.size, 0, none⟩) l.toNat c.toNat) (h.push (.cells (List.replicate c.toNat z).flatten k false true)) := by
  simp [stepT, stepW, newC, nW, h1, h2, h3, h4]
theorem s_store {n o m k : Nat} {c : List Value} {p : Bool} {x : Value} (e : h.at_ n = .cells c k p true) (h1 : x.cells.size = m) (h2 : x.cells.toList.all (·.oneCell') = true) (h3 : o + m ≤ c.length) {u : Tok L} :
    stepT P (.store m) [.pointer (some ⟨n, o, none⟩), x] h L u = L undef (h.set n (.cells (setAt c o x.cells.toList) k p true)) := by
  have h4 : o + x.cells.size ≤ c.length := by omega
  simp [stepT, stepW, storeC, e, h1, h2, h3, h4, hW]
/-! ### By what lies under the number -/

def ldC (o : Nat) : CO → Option Value
  | .cells c _ _ _ => c[o]?
  | _ => none
def ldA (o m : Nat) : CO → Option Value
  | .cells c _ _ _ => if o + m ≤ c.length then some (.agg ((c.drop o).take m).toArray) else none
  | _ => none
def stT (m o : Nat) (x : Value) (co : CO) (n : Nat) (h : CH) (L : Value → CH → Prop) (_ : Tok L) : Prop :=
  match co with
  | .cells c k p rw => rw = true ∧ x.cells.size = m ∧ x.cells.toList.all (·.oneCell') = true ∧ o + m ≤ c.length ∧ L undef (h.set n (.cells (setAt c o x.cells.toList) k p true))
  | _ => False
theorem ldC_cells {c : List Value} {k o : Nat} {p q : Bool} : ldC o (.cells c k p q) = c[o]? := rfl
theorem ldA_cells {c : List Value} {k o m : Nat} {p q : Bool} : ldA o m (.cells c k p q) = if o + m ≤ c.length then some (.agg ((c.drop o).take m).toArray) else none := rfl
theorem g_load1 {n o : Nat} {u : Tok L} : stepT P (.load false 1) [.pointer (some ⟨n, o, none⟩)] h L u = oT (ldC o (h.at_ n)) (fun v => L v h) .mk := by
  cases hco : h.at_ n with
  | cells c k p q => rw [s_load1 hco]; rfl
  | _ => simp [stepT, stepW, readC, cellsAt, hco, ldC, oT]
theorem g_loadA {n o m : Nat} {u : Tok L} : stepT P (.load true m) [.pointer (some ⟨n, o, none⟩)] h L u = oT (ldA o m (h.at_ n)) (fun v => L v h) .mk := by
  cases hco : h.at_ n with
  | cells c k p q =>
    by_cases ho : o + m ≤ c.length
    · rw [s_loadA hco ho]; simp [ldA, ho, oT, oW]
    · simp [stepT, stepW, readC, cellsAt, hco, ldA, ho, oT]
  | _ => simp [stepT, stepW, readC, cellsAt, hco, ldA, oT]
theorem g_store {n o m : Nat} {x : Value} {u : Tok L} : stepT P (.store m) [.pointer (some ⟨n, o, none⟩), x] h L u = stT m o x (h.at_ n) n h L .mk := by
  cases hco : h.at_ n with
  | cells c k p q =>
    simp only [stepT, stepW, storeC, hco, stT]
    refine propext ⟨?_, ?_⟩
    · rintro ⟨h1, h2, h3⟩
      obtain ⟨h', e, hl⟩ := hW_iff.1 h3
      split at e
      · rename_i hh
        cases e
        have h4 := hh.2.1
        simp only [Array.length_toList, h1] at h4
        exact ⟨hh.1, h1, h2, h4, hl⟩
      · cases e
    · rintro ⟨h0, h1, h2, h3, h4⟩
      refine ⟨h1, h2, hW_iff.2 ⟨_, if_pos ⟨h0, ?_, trivial⟩, h4⟩⟩
      simp only [Array.length_toList, h1]; exact h3
  | _ => simp [stepT, stepW, storeC, hco, stT, hW]
theorem st_at {c : List Value} {k n m o : Nat} {p : Bool} {x : Value} {co : CO} {u : Tok L} (e : co = .cells c k p true) (h1 : x.cells.size = m) (h2 : x.cells.toList.all (·.oneCell') = true) (h3 : o + m ≤ c.length) :
    stT m o x co n h L u = L undef (h.set n (.cells (setAt c o x.cells.toList) k p true)) := by
  subst e
  exact propext ⟨fun g => g.2.2.2.2, fun g => ⟨rfl, h1, h2, h3, g⟩⟩
theorem setAt_set {c : List Value} {o : Nat} {x : Value} (ho : o < c.length) : setAt c o [x] = c.set o x := by
  simp only [setAt, List.length_cons, List.length_nil, Nat.zero_add]
  rw [List.set_eq_take_append_cons_drop, if_pos ho]; simp
theorem cells_one {x : Value} (hx : x.oneCell' = true) : x.cells = #[x] := by
  cases x <;> first | rfl | simp [Value.oneCell'] at hx
theorem st_one {c : List Value} {k n o : Nat} {p : Bool} {x : Value} {u : Tok L} (hx : x.oneCell' = true) (ho : o < c.length) : stT 1 o x (.cells c k p true) n h L u = L undef (h.set n (.cells (c.set o x) k p true)) := by
  simp only [stT, cells_one hx]
  have e : (#[x] : Array Value).toList = [x] := rfl
  simp only [e, List.all_cons, List.all_nil, hx, setAt_set ho, Bool.and_self, true_and]
  exact propext ⟨fun g => g.2.2, fun g => ⟨rfl, by omega, g⟩⟩
theorem st_all {c : List Value} {k n m : Nat} {p : Bool} {x : List Value} {u : Tok L} (hx : x.all (·.oneCell') = true) (h1 : x.length = m) (h2 : c.length = m) : stT m 0 (.agg x.toArray) (.cells c k p true) n h L u = L undef (h.set n (.cells x k p true)) := by
  have e : (Value.agg x.toArray).cells = x.toArray := rfl
  simp only [stT, e]
  simp only [hx, h1, h2, setAt]
  simp [← h2, h1]
theorem r_loadA {n o m : Nat} : readC (.load true m) [.pointer (some ⟨n, o, none⟩)] h = ldA o m (h.at_ n) := by
  cases hco : h.at_ n <;> simp [readC, cellsAt, hco, ldA]
  split <;> simp_all
theorem r_load1 {n o : Nat} : readC (.load false 1) [.pointer (some ⟨n, o, none⟩)] h = ldC o (h.at_ n) := by
  cases hco : h.at_ n with
  | cells c k p q =>
    simp only [readC, cellsAt, hco, ldC]
    by_cases ho : o + 1 ≤ c.length
    · rw [if_pos ho]; simp [List.getElem?_take]
    · rw [if_neg ho]; rw [List.getElem?_eq_none (by omega)]
  | _ => simp [readC, cellsAt, hco, ldC]

theorem s_call {f : FuncId} {vs : List Value} {u : Tok L} : stepT P (.call f) vs h L u = callT P f vs h L .mk := rfl

theorem push_size {o : CO} : (h.push o).size = h.size + 1 := rfl
theorem set_size {n : Nat} {o : CO} : (h.set n o).size = h.size := rfl
theorem push_new {o : CO} : (h.push o).at_ h.size = o := by simp [CH.push]
theorem push_old {o : CO} {n : Nat} (e : n < h.size) : (h.push o).at_ n = h.at_ n := by simp [CH.push]; intro e2; omega
theorem set_same {o : CO} {n : Nat} : (h.set n o).at_ n = o := by simp [CH.set]
theorem set_set {a b : CO} {n : Nat} : (h.set n a).set n b = h.set n b := by
  simp only [CH.set, CH.mk.injEq, true_and]
  funext i
  split <;> rfl
theorem set_other {o : CO} {n m : Nat} (e : m ≠ n) : (h.set n o).at_ m = h.at_ m := by simp [CH.set, e]

theorem callT_of {f : FuncId} {vs : List Value} {L' : Value → CH → Prop} {u : Tok L'} (g : callW P f vs h L) (hk : ∀ v h', h.size ≤ h'.size → L v h' → L' v h') : callT P f vs h L' u := by
  obtain ⟨v, h', s, k⟩ := g
  exact ⟨v, h', s, hk v h' s.1 k⟩
theorem loopT_of {c : MC} {u : Tok (c, Q)} (g : wpC P (.loop c) Q ρ h) : loopT P c Q ρ h u := g
theorem callW_mono {f : FuncId} {vs : List Value} {L' : Value → CH → Prop} (g : callW P f vs h L) (hk : ∀ v h', h.size ≤ h'.size → L v h' → L' v h') : callW P f vs h L' := by
  obtain ⟨v, h', s, k⟩ := g
  exact ⟨v, h', s, hk v h' s.1 k⟩
end
end Go.Proofs.Ytdfmdclfnhgjiaa.Can
