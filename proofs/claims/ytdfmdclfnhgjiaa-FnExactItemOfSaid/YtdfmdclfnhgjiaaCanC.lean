/- The operations that need no heap: what the short form computes, the machine computes.
   Conditions: the frame is the short form's frame. -/
import Derived.Test.YtdfmdclfnhgjiaaCanB
set_option linter.unusedVariables false
set_option linter.unusedSimpArgs false
namespace Go.Proofs.Ytdfmdclfnhgjiaa.Can
open Go

structure AR (ι : Map) (N : Nat) (ρ : Nat → Value) (a : Act) : Prop where
  size : a.tmps.size = N
  defers : a.defers = []
  val : ∀ t, t < N → VR ι (ρ t) (a.tmps.getD t undef)
  out : ∀ t, N ≤ t → ρ t = undef

theorem AR.mono {ι κ : Map} (hle : ι.le κ) {N : Nat} {ρ : Nat → Value} {a : Act} (h : AR ι N ρ a) : AR κ N ρ a :=
  ⟨h.size, h.defers, fun t ht => (h.val t ht).mono hle, h.out⟩

def ev (ρ : Nat → Value) : Operand → Value
  | .tmp t => ρ t
  | .const v => v
  | .global _ => undef
  | .func f => .func (.func f) #[] #[]

theorem AR.ev {ι : Map} {N : Nat} {ρ : Nat → Value} {a : Act} (h : AR ι N ρ a) {x : Operand} (hx : okOpd x = true) : VR ι (ev ρ x) (a.eval x) := by
  cases x with
  | tmp t =>
    by_cases ht : t < N
    · exact h.val t ht
    · have h1 := h.out t (Nat.le_of_not_lt ht)
      have h2 : a.tmps.getD t undef = undef := by simp [Array.getD, h.size, ht]
      show VR ι (ρ t) (a.tmps.getD t undef)
      rw [h1, h2]; exact .undef ι
  | const v => exact VR.flat hx
  | global g => simp [okOpd] at hx
  | func f => exact .func _ _ _ _ _ rfl rfl (fun j u u' e _ => by simp at e) (fun j u u' e _ => by simp at e)

theorem AR.evs {ι : Map} {N : Nat} {ρ : Nat → Value} {a : Act} (h : AR ι N ρ a) : ∀ {xs : List Operand}, xs.all okOpd = true → VL ι (xs.map (Can.ev ρ)) (xs.map a.eval)
  | [], _ => .nil ι
  | x :: xs, hx => by
    simp only [List.all_cons, Bool.and_eq_true] at hx
    exact .cons (h.ev hx.1) (h.evs hx.2)

def upd (ρ : Nat → Value) (d : Option Nat) (v : Value) : Nat → Value :=
  match d with
  | some d => fun t => if t = d then v else ρ t
  | none => ρ

theorem AR.put {ι : Map} {N : Nat} {ρ : Nat → Value} {a : Act} (h : AR ι N ρ a) {d : Option Nat} (hd : dstOk N d = true) {v v' : Value} (hv : VR ι v v') :
    AR ι N (upd ρ d v) (a.put d v') := by
  cases d with
  | none => exact h
  | some d =>
    simp only [dstOk, decide_eq_true_eq] at hd
    refine ⟨by simp [Act.put, h.size], h.defers, fun t ht => ?_, fun t ht => ?_⟩
    · simp only [upd, Act.put]
      have hs : t < a.tmps.size := h.size ▸ ht
      by_cases e : t = d
      · subst e
        simp [Array.getD, hs, hv]
      · have := h.val t ht
        simp only [Array.getD, hs, dif_pos] at this
        simp only [if_neg e, Array.getD, Array.size_setIfInBounds, hs, dif_pos]
        have e2 : (a.tmps.setIfInBounds d v')[t]'(by simpa using hs) = a.tmps[t] := Array.getElem_setIfInBounds_ne (by simpa using hs) (Ne.symm e)
        show VR ι (ρ t) ((a.tmps.setIfInBounds d v')[t]'_)
        rw [e2]; exact this
    · simp only [upd]
      rw [if_neg (by omega)]
      exact h.out t ht

section runs
variable {P : Program} (w : World)
theorem run_underlying {t : TypeId} {d : TypeDesc} (h : P.underlying t = some d) : (underlying t).run P w = .ok d w := by
  simp [underlying, h]
theorem run_typeInfo {t : TypeId} {i : TypeInfo} (h : P.info? t = some i) : (typeInfo t).run P w = .ok i w := by
  simp [typeInfo, h]
theorem run_sizeOf {t : TypeId} {n : Nat} (h : szOf P t = some n) : (sizeOf t).run P w = .ok n w := by
  unfold szOf at h
  split at h
  · cases e : P.info? t with
    | none => rw [e] at h; cases h
    | some i => rw [e] at h; cases h; simp [sizeOf, run_typeInfo w e]
  · cases h
theorem run_zeroValue {t : TypeId} {v : Value} (h : zeroOf P t = some v) : (zeroValue t).run P w = .ok v w := by
  unfold zeroOf at h
  cases e : P.info? t with
  | none => rw [e] at h; cases h
  | some i => rw [e] at h; simp at h; simp [zeroValue, run_typeInfo w e, h]
theorem run_isAgg {t : TypeId} {d : TypeDesc} (h : P.underlying t = some d) : (isAgg t).run P w = .ok (isAggT P t) w := by
  unfold isAgg isAggT
  rw [Sem.run_bind, run_underlying w h, h]
  cases d <;> rfl
theorem run_asInt (k : IntKind) (n : Int) : (asInt (.int k n)).run P w = .ok n w := by simp [asInt, asIntOf]
end runs

theorem cint_sound {P : Program} {w : World} {op : BinOp} {k k' : IntKind} {a b : Int} {v : Value} (t : TypeId) (h : cint op k a k' b = some v) : (binOp op t (.int k a) (.int k' b)).run P w = .ok v w ∧ base v = true := by
  cases op <;> simp only [cint] at h <;> split at h <;> first
    | (cases h; done)
    | (rename_i hk
       cases h
       first
       | (simp [binOp, Op.shift, hk, base]; done)
       | (subst hk; simp [binOp, Op.intArith, Op.intDiv, Op.intBits, Op.intCmp, base]; done)
       | (obtain ⟨hk1, hk2⟩ := hk; subst hk1; simp [binOp, Op.intArith, Op.intDiv, Op.intBits, Op.intCmp, hk2, base]; done))

theorem cstr_sound {P : Program} {w : World} {op : BinOp} {x y : ByteArray} {v : Value} (t : TypeId) (h : cstr op x y = some v) : (binOp op t (.string x) (.string y)).run P w = .ok v w ∧ base v = true := by
  cases op <;> simp only [cstr] at h <;> first
    | (cases h; done)
    | (cases h; simp [binOp, Op.stringOp, base]; done)
    | (split at h
       · rename_i hk
         cases h
         have : (x.size : Int) + y.size ≤ 9223372036854775807 := by omega
         simp [binOp, Op.stringOp, this, base, IntKind.max, IntKind.signed, IntKind.bits]
       · cases h)

theorem cbin_sound {P : Program} {w : World} {op : BinOp} {x y v : Value} (t : TypeId) (h : cbin op x y = some v) : (binOp op t x y).run P w = .ok v w ∧ base v = true ∧ base x = true ∧ base y = true := by
  unfold cbin at h
  split at h
  · have := cint_sound (P := P) (w := w) t h; exact ⟨this.1, this.2, rfl, rfl⟩
  · have := cstr_sound (P := P) (w := w) t h; exact ⟨this.1, this.2, rfl, rfl⟩
  · cases h

theorem run_eqGuard_base {P : Program} {w : World} (op : BinOp) (t : TypeId) (x y : Operand) {a b : Value} (h : ¬ (a = .nilIface ∧ b = .nilIface)) (ha : ∀ c, a ≠ .agg c) : (eqGuard op t x y a b).run P w = .ok () w := by
  unfold eqGuard
  cases op <;> simp <;> (split <;> simp_all)

theorem cun_sound {P : Program} {w : World} {op : UnOp} {x v : Value} (h : cun op x = some v) : (Op.unary op x).run P w = .ok v w ∧ base v = true ∧ base x = true := by
  unfold cun at h
  split at h
  · cases op <;> simp at h <;> subst h <;> simp [Op.unary, Op.intArith, Op.intBits, base]
  · cases op <;> simp at h <;> subst h <;> simp [Op.unary, base]
  · cases h


/-- The values' own conversions. -/
theorem VR.int {ι : Map} {k : IntKind} {n : Int} {v' : Value} (h : VR ι (.int k n) v') : v' = .int k n := h.of_base rfl
theorem VR.bool {ι : Map} {b : Bool} {v' : Value} (h : VR ι (.bool b) v') : v' = .bool b := h.of_base rfl
theorem VR.string {ι : Map} {b : ByteArray} {v' : Value} (h : VR ι (.string b) v') : v' = .string b := h.of_base rfl
theorem VR.ptr_inv {ι : Map} {a : Addr} {v' : Value} (h : VR ι (.pointer (some a)) v') : ∃ i, ι a.block = some i ∧ a.spot = none ∧ v' = .pointer (some ⟨i.blk, i.dl + a.off, none⟩) := by
  cases h with
  | base _ hb => simp [Can.base] at hb
  | ptr a i h1 h2 => exact ⟨i, h1, h2, rfl⟩
theorem VR.slice_inv {ι : Map} {a : Addr} {n c : Nat} {v' : Value} (h : VR ι (.slice (some a) n c) v') : ∃ i a' c', ι a.block = some i ∧ a.spot = none ∧ n ≤ c ∧ a.off + c * i.k ≤ i.n ∧ c ≤ c' ∧
    (c' = 0 ∨ (a' = ⟨i.blk, i.dl + a.off, none⟩ ∧ i.dl + a.off + c' * i.k ≤ i.tot)) ∧ (¬ (i.opn = true ∧ a.off + c * i.k = i.n) → c' = c) ∧ v' = .slice (some a') n c' := by
  cases h with
  | base _ hb => simp [Can.base] at hb
  | slice a a' i len cap cap' h1 h2 h3 h4 h5 h6 h7 => exact ⟨i, a', cap', h1, h2, h3, h4, h5, h6, h7, rfl⟩
theorem VR.slice_none {ι : Map} {n c : Nat} {v' : Value} (h : VR ι (.slice none n c) v') : n = 0 ∧ c = 0 ∧ v' = .slice none 0 0 := by
  cases h with
  | base _ hb =>
    simp [Can.base] at hb
    obtain ⟨rfl, rfl⟩ := hb
    exact ⟨rfl, rfl, rfl⟩
theorem VR.agg_inv {ι : Map} {x : Array Value} {v' : Value} (h : VR ι (.agg x) v') : ∃ x', v' = .agg x' ∧ VA ι x x' := by
  cases h with
  | base _ hb => simp [Can.base] at hb
  | agg _ x' h1 h2 => exact ⟨x', rfl, h1, h2⟩
theorem VR.tuple_inv {ι : Map} {x : Array Value} {v' : Value} (h : VR ι (.tuple x) v') : ∃ x', v' = .tuple x' ∧ VA ι x x' := by
  cases h with
  | base _ hb => simp [Can.base] at hb
  | tuple _ x' h1 h2 => exact ⟨x', rfl, h1, h2⟩
theorem VA.extract {ι : Map} {x x' : Array Value} (h : VA ι x x') (a b : Nat) : VA ι (x.extract a b) (x'.extract a b) := by
  have := VL.toArray ((VA.toList h).drop a |>.take (b - a))
  have e : ∀ y : Array Value, y.extract a b = ((y.toList.drop a).take (b - a)).toArray := fun y => by
    apply Array.ext'
    simp [Array.toList_extract, List.extract]
  rw [e x, e x']; exact this
theorem VA.agg {ι : Map} {x x' : Array Value} (h : VA ι x x') : VR ι (.agg x) (.agg x') := .agg _ _ h.1 h.2

theorem VL.setAt {ι : Map} {x x' y y' : List Value} (h : VL ι x x') (g : VL ι y y') (off : Nat) : VL ι (setAt x off y) (setAt x' off y') := by
  unfold Can.setAt
  rw [← g.1]
  exact ((h.take off).append g).append (h.drop _)
theorem VL.fillC {ι : Map} : ∀ {pl : List (Nat × Nat)} {vs vs' x x' y : List Value}, VL ι x x' → VL ι vs vs' → Can.fillC x (pl.zip vs) = some y → ∃ y', Can.fillC x' (pl.zip vs') = some y' ∧ VL ι y y'
  | [], vs, vs', x, x', y, h, g, e => by simp [Can.fillC] at e ⊢; subst e; exact h
  | p :: pl, [], vs', x, x', y, h, g, e => by rw [g.nil_inv]; simp [Can.fillC] at e ⊢; subst e; exact h
  | p :: pl, v :: vs, vs', x, x', y, h, g, e => by
    obtain ⟨v', ws, rfl, g1, g2⟩ := g.cons_inv
    simp only [List.zip_cons_cons, Can.fillC] at e ⊢
    have hc := g1.cells
    split at e
    · rename_i hk
      rw [if_pos ⟨by rw [← hc.1]; exact hk.1, by rw [← h.1]; exact hk.2⟩]
      exact VL.fillC (h.setAt (VA.toList hc) _) g2 e
    · cases e

theorem foldl_set (off : Nat) : ∀ (vs : List Value) (k : Nat) (cs : Array Value), off + k + vs.length ≤ cs.size →
    ((vs.zipIdx k).foldl (fun (cs : Array Value) (p : Value × Nat) => cs.setIfInBounds (off + p.2) p.1) cs).toList = setAt cs.toList (off + k) vs
  | [], k, cs, h => by simp [setAt]
  | v :: vs, k, cs, h => by
    simp only [List.length_cons] at h
    rw [List.zipIdx_cons, List.foldl_cons, foldl_set off vs (k + 1) _ (by simp; omega)]
    simp only [setAt, Array.toList_setIfInBounds, List.length_cons]
    apply List.ext_getElem?
    intro j
    have hl : off + k < cs.toList.length := by simp; omega
    simp only [List.append_assoc, List.getElem?_append, List.length_take, List.length_set, List.getElem?_take, List.getElem?_set, List.getElem?_drop, List.length_cons]
    have e1 : min (off + (k + 1)) cs.toList.length = off + k + 1 := by omega
    have e2 : min (off + k) cs.toList.length = off + k := by omega
    rw [e1, e2]
    by_cases h1 : j < off + k
    · have a1 : j < off + (k + 1) := by omega
      have a2 : j < off + k + 1 := by omega
      have a3 : ¬ off + k = j := by omega
      simp [h1, a1, a2, a3]
    · by_cases h2 : j = off + k
      · subst h2
        simp [hl]
        omega
      · have a2 : ¬ j < off + k + 1 := by omega
        have a4 : j - (off + k) = (j - (off + k + 1)) + 1 := by omega
        rw [if_neg a2, if_neg h1, a4, List.getElem?_cons_succ]
        have a5 : ∀ q, (j - (off + k + 1) + 1 < q + 1) = (j - (off + k + 1) < q) := fun q => by simp
        by_cases h3 : j - (off + k + 1) < vs.length
        · simp [h3]
        · have a6 : ¬ off + k = off + (k + 1) + vs.length + (j - (off + k + 1) - vs.length) := by omega
          simp only [h3, if_false, a6, a5, List.length_cons]
          rw [show off + (k + 1) + vs.length + (j - (off + k + 1) - vs.length) = off + k + (vs.length + 1) + (j - (off + k + 1) + 1 - (vs.length + 1)) by omega]

theorem fill_eq (place : Nat → Option (Nat × Nat)) (a : Act) : ∀ (ps : List (Nat × Operand)) (pl : List (Nat × Nat)) (cs : Array Value) (y : List Value), plOf place ps = some pl → fillC cs.toList (pl.zip (ps.map fun p => a.eval p.2)) = some y →
    Instr.fill place cs (ps.map fun p => (p.1, a.eval p.2)) = some y.toArray
  | [], pl, cs, y, h, e => by
    simp [plOf] at h; subst h
    simp [fillC] at e; subst e
    simp [Instr.fill]
  | (i, x) :: ps, pl, cs, y, h, e => by
    simp only [plOf] at h
    split at h
    · rename_i p l h1 h2
      cases h
      obtain ⟨off, size⟩ := p
      simp only [List.map_cons, List.zip_cons_cons, fillC] at e
      split at e
      · rename_i hk
        simp only [List.map_cons, Instr.fill, h1]
        have hk2 : ¬ ((a.eval x).cells.size ≠ size || decide (off + (a.eval x).cells.size > cs.size)) = true := by
          have := hk.2
          simp at this ⊢
          exact ⟨hk.1, by rw [hk.1]; exact this⟩
        rw [if_neg hk2]
        refine fill_eq place a ps l _ y h2 ?_
        have := foldl_set off (a.eval x).cells.toList 0 cs (by have h1 := hk.1; have h2 := hk.2; simp at h2 ⊢; omega)
        rw [Nat.add_zero] at this
        rw [← this] at e
        rw [← Array.foldl_toList, Array.toList_zipIdx]
        exact e
      · cases e
    · cases h

end Go.Proofs.Ytdfmdclfnhgjiaa.Can
