/- A second heap beside the machine's: each block gets a number of its own that hangs on the text alone, not on the tape. Here: what a value and a heap of the one mean in the other.
   Conditions: none; definitions and their plain laws. -/
import Derived.WalkKit
set_option linter.unusedVariables false
set_option linter.unusedSimpArgs false
namespace Go.Proofs.Ytdfmdclfnhgjiaa.Can
open Go

/-- What lies under a number: cells (k to an element; opn: the machine's block may be longer; rw: it may be written), a map, an iterator over a string, or nothing that may be looked at. -/
inductive CO where
  | cells (c : List Value) (k : Nat) (opn rw : Bool)
  | map (es : List MapEntry) (clock : Nat)
  | iter (s : ByteArray) (pos : Nat)
  | dead (k : Nat)

def CO.own : CO → Bool
  | .cells _ _ _ rw => rw
  | .map _ _ => true
  | .iter _ _ => true
  | .dead _ => false
def CO.live : CO → Bool
  | .dead _ => false
  | _ => true
/-- Cells to an element; this outlives the cells. -/
def CO.kk : CO → Nat
  | .cells _ k _ _ => k
  | .dead k => k
  | _ => 0

structure CH where
  size : Nat
  at_ : Nat → CO

def CH.push (h : CH) (o : CO) : CH := { size := h.size + 1, at_ := fun i => if i = h.size then o else h.at_ i }
def CH.set (h : CH) (n : Nat) (o : CO) : CH := { h with at_ := fun i => if i = n then o else h.at_ i }

/-- Where a number's cells lie in the machine's heap. -/
structure Info where
  blk : Nat
  dl : Nat
  k : Nat
  n : Nat
  opn : Bool
  tot : Nat

abbrev Map := Nat → Option Info

def Map.put (ι : Map) (n : Nat) (i : Info) : Map := fun o => if o = n then some i else ι o
theorem Map.put_self (ι : Map) (n : Nat) (i : Info) : ι.put n i n = some i := by simp [Map.put]
theorem Map.put_ne (ι : Map) {n o : Nat} (i : Info) (h : o ≠ n) : ι.put n i o = ι o := by simp [Map.put, h]

def Map.le (ι κ : Map) : Prop := ∀ o i, ι o = some i → κ o = some i
theorem Map.le_refl (ι : Map) : ι.le ι := fun _ _ h => h
theorem Map.le_trans {ι κ μ : Map} (h : ι.le κ) (g : κ.le μ) : ι.le μ := fun o i e => g o i (h o i e)
theorem Map.le_put {ι : Map} {n : Nat} {i : Info} (h : ι n = none) : ι.le (ι.put n i) := fun o j e => by
  by_cases ho : o = n
  · subst ho; rw [h] at e; cases e
  · rw [Map.put_ne _ _ ho]; exact e

/-- A value without an address. -/
def base : Value → Bool
  | .bool _ | .int _ _ | .float _ _ | .complex _ _ _ | .string _ | .pointer none | .map none | .chan none | .nilFunc | .nilIface => true
  | .slice none n c => n == 0 && c == 0
  | _ => false

inductive VR (ι : Map) : Value → Value → Prop
  | base (v : Value) : base v = true → VR ι v v
  | ptr (a : Addr) (i : Info) : ι a.block = some i → a.spot = none → VR ι (.pointer (some a)) (.pointer (some ⟨i.blk, i.dl + a.off, none⟩))
  | slice (a a' : Addr) (i : Info) (len cap cap' : Nat) : ι a.block = some i → a.spot = none → len ≤ cap → a.off + cap * i.k ≤ i.n → cap ≤ cap' →
      (cap' = 0 ∨ (a' = ⟨i.blk, i.dl + a.off, none⟩ ∧ i.dl + a.off + cap' * i.k ≤ i.tot)) →
      (¬ (i.opn = true ∧ a.off + cap * i.k = i.n) → cap' = cap) → VR ι (.slice (some a) len cap) (.slice (some a') len cap')
  | map (r : Nat) (i : Info) : ι r = some i → VR ι (.map (some r)) (.map (some i.blk))
  | func (fn : Fn) (x x' y y' : Array Value) : x.size = x'.size → y.size = y'.size → (∀ (j : Nat) (u u' : Value), x[j]? = some u → x'[j]? = some u' → VR ι u u') →
      (∀ (j : Nat) (u u' : Value), y[j]? = some u → y'[j]? = some u' → VR ι u u') → VR ι (.func fn x y) (.func fn x' y')
  | iface (t : TypeId) (v v' : Value) : VR ι v v' → VR ι (.iface t v) (.iface t v')
  | agg (x x' : Array Value) : x.size = x'.size → (∀ (j : Nat) (u u' : Value), x[j]? = some u → x'[j]? = some u' → VR ι u u') → VR ι (.agg x) (.agg x')
  | tuple (x x' : Array Value) : x.size = x'.size → (∀ (j : Nat) (u u' : Value), x[j]? = some u → x'[j]? = some u' → VR ι u u') → VR ι (.tuple x) (.tuple x')

theorem VR.mono {ι κ : Map} (hle : ι.le κ) {v v' : Value} (h : VR ι v v') : VR κ v v' := by
  induction h with
  | base v hb => exact .base v hb
  | ptr a i h1 h2 => exact .ptr a i (hle _ _ h1) h2
  | slice a a' i len cap cap' h1 h2 h3 h4 h5 h6 h7 => exact .slice a a' i len cap cap' (hle _ _ h1) h2 h3 h4 h5 h6 h7
  | map r i h1 => exact .map r i (hle _ _ h1)
  | func fn x x' y y' h1 h2 _ _ i1 i2 => exact .func fn x x' y y' h1 h2 i1 i2
  | iface t v v' _ i1 => exact .iface t v v' i1
  | agg x x' h1 _ i1 => exact .agg x x' h1 i1
  | tuple x x' h1 _ i1 => exact .tuple x x' h1 i1

theorem VR.one {ι : Map} {v v' : Value} (h : VR ι v v') : v'.oneCell' = v.oneCell' := by cases h <;> rfl
theorem VR.undef (ι : Map) : VR ι undef undef := .tuple _ _ rfl (fun j u u' h _ => by simp at h)

theorem VR.of_base {ι : Map} {v v' : Value} (h : VR ι v v') (hb : Can.base v = true) : v' = v := by
  cases h <;> first | rfl | (simp [Can.base] at hb)

/-- Arrays of values, place by place. -/
def VA (ι : Map) (x x' : Array Value) : Prop := x.size = x'.size ∧ ∀ (j : Nat) (u u' : Value), x[j]? = some u → x'[j]? = some u' → VR ι u u'
def VL (ι : Map) (x x' : List Value) : Prop := x.length = x'.length ∧ ∀ (j : Nat) (u u' : Value), x[j]? = some u → x'[j]? = some u' → VR ι u u'

theorem VA.mono {ι κ : Map} (hle : ι.le κ) {x x' : Array Value} (h : VA ι x x') : VA κ x x' := ⟨h.1, fun j u u' e e' => (h.2 j u u' e e').mono hle⟩
theorem VL.mono {ι κ : Map} (hle : ι.le κ) {x x' : List Value} (h : VL ι x x') : VL κ x x' := ⟨h.1, fun j u u' e e' => (h.2 j u u' e e').mono hle⟩
theorem VL.toArray {ι : Map} {x x' : List Value} (h : VL ι x x') : VA ι x.toArray x'.toArray := ⟨by simpa using h.1, fun j u u' e e' => h.2 j u u' (by simpa using e) (by simpa using e')⟩
theorem VA.toList {ι : Map} {x x' : Array Value} (h : VA ι x x') : VL ι x.toList x'.toList := ⟨by simpa using h.1, fun j u u' e e' => h.2 j u u' (by simpa using e) (by simpa using e')⟩
theorem VL.nil (ι : Map) : VL ι [] [] := ⟨rfl, fun j u u' e _ => by simp at e⟩
theorem VL.cons {ι : Map} {v v' : Value} {x x' : List Value} (h : VR ι v v') (hx : VL ι x x') : VL ι (v :: x) (v' :: x') :=
  ⟨by simp [hx.1], fun j u u' e e' => by
    cases j with
    | zero => simp at e e'; subst e; subst e'; exact h
    | succ j => exact hx.2 j u u' (by simpa using e) (by simpa using e')⟩
theorem VL.head {ι : Map} {v v' : Value} {x x' : List Value} (h : VL ι (v :: x) (v' :: x')) : VR ι v v' := h.2 0 _ _ rfl rfl
theorem VL.tail {ι : Map} {v v' : Value} {x x' : List Value} (h : VL ι (v :: x) (v' :: x')) : VL ι x x' :=
  ⟨by have := h.1; simpa using this, fun j u u' e e' => h.2 (j + 1) u u' (by simpa using e) (by simpa using e')⟩
theorem VL.nil_inv {ι : Map} {x' : List Value} (h : VL ι [] x') : x' = [] := List.eq_nil_of_length_eq_zero h.1.symm
theorem VL.cons_inv {ι : Map} {v : Value} {x x' : List Value} (h : VL ι (v :: x) x') : ∃ v' y', x' = v' :: y' ∧ VR ι v v' ∧ VL ι x y' := by
  cases x' with
  | nil => have := h.1; simp at this
  | cons v' y' => exact ⟨v', y', rfl, h.head, h.tail⟩
theorem VL.append {ι : Map} {x x' y y' : List Value} (h : VL ι x x') (g : VL ι y y') : VL ι (x ++ y) (x' ++ y') := by
  induction x generalizing x' with
  | nil => rw [h.nil_inv]; exact g
  | cons v x ih =>
    obtain ⟨v', z', rfl, h1, h2⟩ := h.cons_inv
    exact .cons h1 (ih h2)
theorem VL.get {ι : Map} {x x' : List Value} (h : VL ι x x') {j : Nat} {u : Value} (e : x[j]? = some u) : ∃ u', x'[j]? = some u' ∧ VR ι u u' := by
  have hj : j < x.length := (List.getElem?_eq_some_iff.1 e).1
  have hj' : j < x'.length := h.1 ▸ hj
  exact ⟨x'[j], List.getElem?_eq_getElem hj', h.2 j _ _ e (List.getElem?_eq_getElem hj')⟩
theorem VA.get {ι : Map} {x x' : Array Value} (h : VA ι x x') {j : Nat} {u : Value} (e : x[j]? = some u) : ∃ u', x'[j]? = some u' ∧ VR ι u u' := by
  have hj : j < x.size := (Array.getElem?_eq_some_iff.1 e).1
  have hj' : j < x'.size := h.1 ▸ hj
  exact ⟨x'[j], Array.getElem?_eq_getElem hj', h.2 j _ _ e (Array.getElem?_eq_getElem hj')⟩
theorem VL.take {ι : Map} {x x' : List Value} (h : VL ι x x') (n : Nat) : VL ι (x.take n) (x'.take n) :=
  ⟨by simp [h.1], fun j u u' e e' => by
    rw [List.getElem?_take] at e e'
    split at e
    · rename_i hj; rw [if_pos hj] at e'; exact h.2 j u u' e e'
    · cases e⟩
theorem VL.drop {ι : Map} {x x' : List Value} (h : VL ι x x') (n : Nat) : VL ι (x.drop n) (x'.drop n) :=
  ⟨by simp [h.1], fun j u u' e e' => by
    rw [List.getElem?_drop] at e e'
    exact h.2 _ u u' e e'⟩

/-- The cells of a value. -/
theorem VR.cells {ι : Map} {v v' : Value} (h : VR ι v v') : VA ι v.cells v'.cells := by
  have one : ∀ u u' : Value, VR ι u u' → VA ι #[u] #[u'] := fun u u' g => (VL.cons g (VL.nil ι)).toArray
  have h0 := h
  cases h with
  | base v hb => cases v <;> first | exact one _ _ h0 | (simp [Can.base] at hb)
  | agg x x' h1 h2 => exact ⟨h1, h2⟩
  | _ => exact one _ _ h0

/-- All parts without an address: such values are the same on both sides. -/
def bases (x : List Value) : Bool := x.all base
theorem VL.of_bases {ι : Map} {x x' : List Value} (h : VL ι x x') (hb : bases x = true) : x' = x := by
  induction x generalizing x' with
  | nil => exact h.nil_inv
  | cons v x ih =>
    obtain ⟨v', z', rfl, h1, h2⟩ := h.cons_inv
    simp only [bases, List.all_cons, Bool.and_eq_true] at hb
    rw [h1.of_base hb.1, ih h2 hb.2]
theorem VL.self {ι : Map} : ∀ {x : List Value}, bases x = true → VL ι x x
  | [], _ => .nil ι
  | v :: x, hb => by
    simp only [bases, List.all_cons, Bool.and_eq_true] at hb
    exact .cons (.base v hb.1) (VL.self (x := x) hb.2)
/-- A value without an address, in one cell or in several. -/
def flat : Value → Bool
  | .agg x => bases x.toList
  | v => base v
theorem VR.of_flat {ι : Map} {v v' : Value} (h : VR ι v v') (hb : flat v = true) : v' = v := by
  cases h with
  | agg x x' h1 h2 =>
    have : x'.toList = x.toList := VL.of_bases (ι := ι) (VA.toList ⟨h1, h2⟩) hb
    rw [Array.toList_inj.1 this]
  | base v _ => rfl
  | _ => simp [flat, Can.base] at hb
theorem VR.flat {ι : Map} {v : Value} (hb : Can.flat v = true) : VR ι v v := by
  by_cases h : ∃ x, v = .agg x
  · obtain ⟨x, rfl⟩ := h
    have := VL.toArray (VL.self (ι := ι) (x := x.toList) hb)
    exact .agg _ _ this.1 (by simpa using this.2)
  · refine .base v ?_
    cases v <;> first | exact hb | exact absurd ⟨_, rfl⟩ h

/-- What the machine's heap holds of one number. -/
def OR (ι : Map) (i : Info) (w : World) : CO → Prop
  | .cells c k opn rw => i.k = k ∧ i.n = c.length ∧ i.opn = opn ∧ i.dl + c.length ≤ i.tot ∧ (∀ v ∈ c, v.oneCell' = true) ∧
      ∃ C e fz, w.heap[i.blk]? = some (.cells C e fz) ∧ C.size = i.tot ∧ (∀ j v, c[j]? = some v → ∃ v', C[i.dl + j]? = some v' ∧ VR ι v v') ∧
        (rw = true → ∀ j, j < i.tot → ¬ (fz.1 ≤ j ∧ j < fz.2))
  | .map es clock => i.k = 0 ∧ w.heap[i.blk]? = some (.map es.toArray clock) ∧ ∀ e ∈ es, flat e.key = true ∧ flat e.val = true
  | .iter s pos => i.k = 0 ∧ w.heap[i.blk]? = some (.stringIter s pos) ∧ i.dl = 0
  | .dead k => i.k = k

structure HR (ι : Map) (h : CH) (w : World) : Prop where
  obj : ∀ o i, ι o = some i → OR ι i w (h.at_ o)
  sep : ∀ o o' i i', o ≠ o' → ι o = some i → ι o' = some i' → (h.at_ o).own = true → (h.at_ o').live = true → i.blk ≠ i'.blk
  dom : ∀ o i, ι o = some i → o < h.size
  lt : ∀ o i, ι o = some i → i.blk < w.heap.size

/-- A block of the machine's that may be written. -/
def owned (ι : Map) (h : CH) (b : Nat) : Prop := ∃ o i, ι o = some i ∧ (h.at_ o).own = true ∧ i.blk = b

/-- From one state to a later one. -/
structure Fr (ι : Map) (h : CH) (w : World) (κ : Map) (h' : CH) (w' : World) : Prop where
  le : ι.le κ
  new : ∀ o, ι o = none → κ o ≠ none → h.size ≤ o
  hsize : h.size ≤ h'.size
  size : w.heap.size ≤ w'.heap.size
  block : ∀ b, b < w.heap.size → ¬ owned ι h b → w'.heap[b]? = w.heap[b]?
  own : ∀ b, b < w.heap.size → owned κ h' b → owned ι h b
  blk : ∀ o i, ι o = none → κ o = some i → w.heap.size ≤ i.blk ∨ owned ι h i.blk
  os : w'.os = w.os
  tape : w'.tape = w.tape
  output : w'.output = w.output

theorem Fr.refl (ι : Map) (h : CH) (w : World) : Fr ι h w ι h w :=
  ⟨ι.le_refl, fun o e n => absurd e n, Nat.le_refl _, Nat.le_refl _, fun _ _ _ => rfl, fun _ _ h => h, fun o i e n => (by rw [e] at n; cases n), rfl, rfl, rfl⟩

theorem Fr.trans {ι κ μ : Map} {h h1 h2 : CH} {w w1 w2 : World} (a : Fr ι h w κ h1 w1) (b : Fr κ h1 w1 μ h2 w2) : Fr ι h w μ h2 w2 where
  le := Map.le_trans a.le b.le
  new o e n := by
    cases hk : κ o with
    | none => exact Nat.le_trans a.hsize (b.new o hk n)
    | some i => exact a.new o e (by rw [hk]; simp)
  hsize := Nat.le_trans a.hsize b.hsize
  size := Nat.le_trans a.size b.size
  block q hq hn := by rw [b.block q (Nat.lt_of_lt_of_le hq a.size) (fun ho => hn (a.own q hq ho)), a.block q hq hn]
  own q hq ho := a.own q hq (b.own q (Nat.lt_of_lt_of_le hq a.size) ho)
  blk o i e n := by
    cases hk : κ o with
    | none =>
      rcases b.blk o i hk n with h1 | h1
      · exact .inl (Nat.le_trans a.size h1)
      · by_cases hlt : i.blk < w.heap.size
        · exact .inr (a.own _ hlt h1)
        · exact .inl (Nat.le_of_not_lt hlt)
    | some j =>
      have : i = j := by have := b.le o j hk; rw [this] at n; cases n; rfl
      subst this
      exact a.blk o i e hk
  os := b.os.trans a.os
  tape := b.tape.trans a.tape
  output := b.output.trans a.output

theorem OR.mono {ι κ : Map} (hle : ι.le κ) {i : Info} {w w' : World} {o : CO} (h : OR ι i w o) (hb : o.live = true → w'.heap[i.blk]? = w.heap[i.blk]?) : OR κ i w' o := by
  cases o with
  | cells c k opn rw =>
    obtain ⟨h1, h2, h3, h4, h0, C, e, fz, h5, h6, h7, h8⟩ := h
    exact ⟨h1, h2, h3, h4, h0, C, e, fz, (hb rfl).trans h5, h6, fun j v e => let ⟨v', a, b⟩ := h7 j v e; ⟨v', a, b.mono hle⟩, h8⟩
  | map es clock => exact ⟨h.1, (hb rfl).trans h.2.1, h.2.2⟩
  | iter s pos => exact ⟨h.1, (hb rfl).trans h.2.1, h.2.2⟩
  | dead k => exact h

theorem OR.kk {ι : Map} {i : Info} {w : World} {o : CO} (h : OR ι i w o) : i.k = o.kk := by
  cases o <;> exact (by first | exact h.1 | exact h)
theorem OR.lt {ι : Map} {i : Info} {w : World} {o : CO} (h : OR ι i w o) (hl : o.live = true) : i.blk < w.heap.size := by
  cases o with
  | cells c k opn rw =>
    obtain ⟨h1, h2, h3, h4, h0, C, e, fz, h5, h6, h7, h8⟩ := h
    exact (Array.getElem?_eq_some_iff.1 h5).1
  | map es clock => exact (Array.getElem?_eq_some_iff.1 h.2.1).1
  | iter s pos => exact (Array.getElem?_eq_some_iff.1 h.2.1).1
  | dead k => cases hl

/-- The same heaps, but for a count of the world. -/
theorem HR.same {ι : Map} {h : CH} {w w' : World} (g : HR ι h w) (he : w'.heap = w.heap) : HR ι h w' :=
  ⟨fun o i e => (g.obj o i e).mono ι.le_refl (fun _ => by rw [he]), g.sep, g.dom, fun o i e => by rw [he]; exact g.lt o i e⟩

theorem Fr.same {ι : Map} {h : CH} {w w' : World} (he : w'.heap = w.heap) (ho : w'.os = w.os) (ht : w'.tape = w.tape) (hu : w'.output = w.output) : Fr ι h w ι h w' :=
  ⟨ι.le_refl, fun o e n => absurd e n, Nat.le_refl _, Nat.le_of_eq (by rw [he]), fun _ _ _ => by rw [he], fun _ _ h => h, fun o i e n => (by rw [e] at n; cases n), ho, ht, hu⟩

/-- A new block, under a new number n at or above the size; the heap that tells of it may tell of others, too. -/
theorem HR.push {ι : Map} {h : CH} {w : World} (g : HR ι h w) (o : CO) (O : Obj) (i : Info) (hi : i.blk = w.heap.size)
    (hO : ∀ w' : World, w'.heap = w.heap.push O → OR (ι.put h.size i) i w' o) {w' : World} (hw : w'.heap = w.heap.push O) : HR (ι.put h.size i) (h.push o) w' := by
  have hn : ι h.size = none := by
    cases e : ι h.size with
    | none => rfl
    | some j => exact absurd (g.dom _ _ e) (Nat.lt_irrefl _)
  have old : ∀ q j, ι q = some j → q ≠ h.size := fun q j e hq => by rw [hq, hn] at e; cases e
  refine ⟨fun q j e => ?_, fun q q' j j' hne e e' ho hl => ?_, fun q j e => ?_, fun q j e => ?_⟩
  · by_cases hq : q = h.size
    · subst hq
      rw [Map.put_self] at e
      cases e
      simp only [CH.push, if_pos]
      exact hO w' hw
    · rw [Map.put_ne _ _ hq] at e
      simp only [CH.push, if_neg hq]
      exact (g.obj q j e).mono (Map.le_put hn) (fun hl => by
        have := (g.obj q j e).lt hl
        rw [hw, Array.getElem?_push, if_neg (by omega)])
  · by_cases hq : q = h.size
    · by_cases hq' : q' = h.size
      · exact absurd (hq.trans hq'.symm) hne
      · subst hq
        rw [Map.put_self] at e; cases e
        rw [Map.put_ne _ _ hq'] at e'
        simp only [CH.push, if_neg hq'] at hl
        have := (g.obj q' j' e').lt hl
        omega
    · rw [Map.put_ne _ _ hq] at e
      simp only [CH.push, if_neg hq] at ho
      by_cases hq' : q' = h.size
      · subst hq'
        rw [Map.put_self] at e'; cases e'
        have hl' : (h.at_ q).live = true := by cases hc : h.at_ q <;> simp_all [CO.own, CO.live]
        have := (g.obj q j e).lt hl'
        omega
      · rw [Map.put_ne _ _ hq'] at e'
        simp only [CH.push, if_neg hq'] at hl
        exact g.sep q q' j j' hne e e' ho hl
  · by_cases hq : q = h.size
    · subst hq; simp [CH.push]
    · rw [Map.put_ne _ _ hq] at e
      exact Nat.lt_succ_of_lt (g.dom q j e)
  · rw [hw, Array.size_push]
    by_cases hq : q = h.size
    · subst hq
      rw [Map.put_self] at e; cases e
      omega
    · rw [Map.put_ne _ _ hq] at e
      exact Nat.lt_succ_of_lt (g.lt q j e)

theorem HR.none {ι : Map} {h : CH} {w : World} (g : HR ι h w) : ι h.size = none := by
  cases e : ι h.size with
  | none => rfl
  | some j => exact absurd (g.dom _ _ e) (Nat.lt_irrefl _)

theorem Fr.push {ι : Map} {h : CH} {w w' : World} (g : HR ι h w) (o : CO) (O : Obj) (i : Info) (hi : i.blk = w.heap.size) (hw : w'.heap = w.heap.push O)
    (ho : w'.os = w.os) (ht : w'.tape = w.tape) (hu : w'.output = w.output) : Fr ι h w (ι.put h.size i) (h.push o) w' where
  le := Map.le_put g.none
  new q e n := by
    by_cases hq : q = h.size
    · omega
    · rw [Map.put_ne _ _ hq] at n; exact absurd e n
  hsize := Nat.le_succ _
  size := by rw [hw]; simp
  block b hb _ := by rw [hw, Array.getElem?_push, if_neg (by omega)]
  own b hb := by
    rintro ⟨q, j, e, h1, h2⟩
    by_cases hq : q = h.size
    · subst hq
      rw [Map.put_self] at e; cases e
      omega
    · rw [Map.put_ne _ _ hq] at e
      simp only [CH.push, if_neg hq] at h1
      exact ⟨q, j, e, h1, h2⟩
  blk q j e n := by
    by_cases hq : q = h.size
    · subst hq
      rw [Map.put_self] at n; cases n
      exact .inl (by omega)
    · rw [Map.put_ne _ _ hq, e] at n; cases n
  os := ho
  tape := ht
  output := hu

/-- A store into cells that may be written. -/
theorem HR.write {ι : Map} {h : CH} {w w' : World} (g : HR ι h w) {n : Nat} {i : Info} {c c' : List Value} {k : Nat} {opn : Bool} (hi : ι n = some i)
    (hc : h.at_ n = .cells c k opn true) (hlen : c'.length = c.length) (C' : Array Value)
    (hb : ∀ C e fz, w.heap[i.blk]? = some (.cells C e fz) → w'.heap[i.blk]? = some (.cells C' e fz) ∧ C'.size = C.size)
    (hv : ∀ j v, c'[j]? = some v → ∃ v', C'[i.dl + j]? = some v' ∧ VR ι v v') (hone : ∀ v ∈ c', v.oneCell' = true)
    (hof : ∀ b, b ≠ i.blk → w'.heap[b]? = w.heap[b]?) (hsz : w'.heap.size = w.heap.size) : HR ι (h.set n (.cells c' k opn true)) w' := by
  have hown : (h.at_ n).own = true := by rw [hc]; rfl
  have same : ∀ q, ((h.set n (.cells c' k opn true)).at_ q).own = (h.at_ q).own ∧ ((h.set n (.cells c' k opn true)).at_ q).live = (h.at_ q).live := by
    intro q
    by_cases hq : q = n
    · subst hq; simp [CH.set, hc, CO.own, CO.live]
    · simp [CH.set, hq]
  refine ⟨fun q j e => ?_, fun q q' j j' hne e e' ho hl => ?_, fun q j e => g.dom q j e, fun q j e => by rw [hsz]; exact g.lt q j e⟩
  · by_cases hq : q = n
    · subst hq
      rw [hi] at e; cases e
      simp only [CH.set, if_pos]
      have := g.obj q i hi
      rw [hc] at this
      obtain ⟨h1, h2, h3, h4, h0, C, e, fz, h5, h6, h7, h8⟩ := this
      obtain ⟨h9, h10⟩ := hb C e fz h5
      exact ⟨h1, h2.trans hlen.symm, h3, by omega, hone, C', e, fz, h9, h10.trans h6, hv, h8⟩
    · simp only [CH.set, if_neg hq]
      refine (g.obj q j e).mono ι.le_refl (fun hl => hof _ (fun hbk => ?_))
      exact g.sep n q i j (Ne.symm hq) hi e hown hl hbk.symm
  · rw [(same q).1] at ho
    rw [(same q').2] at hl
    exact g.sep q q' j j' hne e e' ho hl

theorem Fr.write {ι : Map} {h : CH} {w w' : World} {n : Nat} {i : Info} {o o' : CO} (hi : ι n = some i)
    (hc : h.at_ n = o) (ho' : o.own = true) (hsz : w'.heap.size = w.heap.size)
    (hof : ∀ b, b ≠ i.blk → w'.heap[b]? = w.heap[b]?) (ho : w'.os = w.os) (ht : w'.tape = w.tape) (hu : w'.output = w.output) : Fr ι h w ι (h.set n o') w' where
  le := ι.le_refl
  new q e hn := absurd e hn
  hsize := Nat.le_refl _
  size := Nat.le_of_eq hsz.symm
  block b hb hn := hof b (fun e => hn ⟨n, i, hi, by rw [hc]; exact ho', e.symm⟩)
  own b hb := by
    rintro ⟨q, j, e, h1, h2⟩
    by_cases hq : q = n
    · subst hq
      exact ⟨q, j, e, by rw [hc]; exact ho', h2⟩
    · simp only [CH.set, if_neg hq] at h1
      exact ⟨q, j, e, h1, h2⟩
  blk q j e n := by rw [e] at n; cases n
  os := ho
  tape := ht
  output := hu

end Go.Proofs.Ytdfmdclfnhgjiaa.Can
