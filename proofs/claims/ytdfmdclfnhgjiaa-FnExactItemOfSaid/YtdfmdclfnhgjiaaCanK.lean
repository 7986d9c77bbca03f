/- Draw regions: the short form's one order speaks for all orders.
   Conditions: checked by drawOk, and by the rechecks that the account asks for. -/
import Derived.Test.YtdfmdclfnhgjiaaCanJ
set_option linter.unusedVariables false
set_option linter.unusedSimpArgs false
namespace Go.Proofs.Ytdfmdclfnhgjiaa.Can
open Go

def isB : Value → Option Bool
  | .bool b => some b
  | _ => none

theorem storeC_size {h h' : CH} {b : Addr} {vs : List Value} (e : storeC h b vs = some h') : h'.size = h.size := by
  unfold storeC at e
  split at e
  · split at e
    · cases e; rfl
    · cases e
  · cases e
theorem appC_size {k b : Nat} {s x v : Value} {h h' : CH} (e : appC k b s x h = some (v, h')) : h.size ≤ h'.size := by
  unfold appC at e
  repeat' split at e
  all_goals first
    | (cases e; done)
    | (cases e; exact Nat.le_refl _)
    | (cases e; exact Nat.le_succ _)
    | (simp only [Option.map_eq_some_iff] at e
       obtain ⟨h2, e1, e2⟩ := e
       cases e2
       exact Nat.le_of_eq (storeC_size e1).symm)
theorem appZC_size {k b : Nat} {z : List Value} {s x v : Value} {h h' : CH} (e : appZC k b z s x h = some (v, h')) : h.size ≤ h'.size := by
  unfold appZC at e
  repeat' split at e
  all_goals first
    | (cases e; done)
    | (cases e; exact Nat.le_succ _)
theorem cpyC_size {k : Nat} {s x v : Value} {h h' : CH} (e : cpyC k s x h = some (v, h')) : h.size ≤ h'.size := by
  unfold cpyC at e
  repeat' split at e
  all_goals first
    | (cases e; done)
    | (cases e; exact Nat.le_refl _)
    | (simp only [Option.map_eq_some_iff] at e
       obtain ⟨h2, e1, e2⟩ := e
       cases e2
       exact Nat.le_of_eq (storeC_size e1).symm)

theorem Step.size {P : Program} {sh : Sh} {vs : List Value} {h h' : CH} {v : Value} (s : Step P sh vs h v h') : h.size ≤ h'.size := by
  unfold Step at s
  cases hk : kind sh <;> rw [hk] at s
  · exact Nat.le_of_eq (by rw [s.2])
  · exact Nat.le_of_eq (by rw [s.2])
  · obtain ⟨co, f, _, _, rfl⟩ := s; exact Nat.le_succ _
  · simp only [effC] at s
    split at s
    · exact Nat.le_of_eq (storeC_size s.2.2.2).symm
    · exact appC_size s
    · exact appZC_size s
    · exact cpyC_size s
    · exact s.1
    · exact s.2.1
    · exact s.elim

theorem compOp_some {P : Program} {N : Nat} {ops : Array Oper} {o : Oper} {mi : MI} (h : compOp P N ops o = some mi) : compSh P o.op = some mi.sh ∧ (opdsOf o.op).all okOpd = true ∧ dstOk N o.dst = true ∧
    mi.dst = o.dst ∧ mi.xs = opdsOf o.op ∧ (match o.guard with | none => mi.guard = none | some (j, b) => ∃ t, (ops[j]?).bind (·.dst) = some t ∧ t < N ∧ mi.guard = some (t, b)) := by
  unfold compOp at h
  split at h
  · cases h
  · rename_i sh hsh
    split at h
    · rename_i hk
      split at h
      · rename_i hg
        cases h
        rw [hg]
        exact ⟨hsh, hk.1, hk.2, rfl, rfl, rfl⟩
      · rename_i j b hg
        split at h
        · rename_i t ht
          split at h
          · rename_i hlt
            cases h
            rw [hg]
            exact ⟨hsh, hk.1, hk.2, rfl, rfl, t, ht, hlt, rfl⟩
          · cases h
        · cases h
    · cases h

section
variable {P : Program} {ι : Map} {N : Nat} {ρ : Nat → Value} {a : Act} {w : World} {h : CH}

theorem isB_rel {v v' : Value} (hv : VR ι v v') : isB v' = isB v := by cases hv <;> rfl

/-- The guard, on both sides. -/
theorem wanted_eq (hA : AR ι N ρ a) {ops : Array Oper} {o : Oper} {mi : MI} (hm : compOp P N ops o = some mi) :
    Region.wanted o (yielded ops a.tmps) = (match mi.guard with | none => true | some (t, b) => decide (isB (ρ t) = some b)) := by
  obtain ⟨_, _, _, _, _, hg⟩ := compOp_some hm
  cases hgo : o.guard with
  | none => rw [hgo] at hg; simp only at hg; rw [hg]; simp [Region.wanted, hgo]
  | some p =>
    obtain ⟨j, b⟩ := p
    rw [hgo] at hg
    obtain ⟨t, ht, hlt, hmg⟩ := hg
    rw [hmg]
    simp only [Region.wanted, hgo]
    have hv := hA.val t hlt
    have hs : t < a.tmps.size := hA.size ▸ hlt
    have hget : a.tmps[t]? = some (a.tmps.getD t undef) := by simp [Array.getD, hs]
    have hy : yielded ops a.tmps j = isB (a.tmps.getD t undef) := by
      unfold yielded
      rw [ht]
      simp only [Option.bind_some, hget]
      cases a.tmps.getD t undef <;> rfl
    rw [hy, isB_rel hv]
    cases isB (ρ t) with
    | none => simp
    | some c => cases b <;> cases c <;> rfl

/-- What a piece of code leaves. -/
def After (P : Program) (ι : Map) (N : Nat) (h : CH) (w : World) (K : (Nat → Value) → CH → Prop) : Act → World → Prop :=
  fun a' w' => ∃ κ ρ' h', K ρ' h' ∧ AR κ N ρ' a' ∧ HR κ h' w' ∧ Fr ι h w κ h' w'

theorem After.trans {κ : Map} {h1 : CH} {w1 : World} {K : (Nat → Value) → CH → Prop} (f : Fr ι h w κ h1 w1) {a' : Act} {w' : World} (g : After P κ N h1 w1 K a' w') : After P ι N h w K a' w' := by
  obtain ⟨μ, ρ', h', k, r1, r2, r3⟩ := g
  exact ⟨μ, ρ', h', k, r1, r2, f.trans r3⟩

end

/-! ### The account -/

def onB (mi : MI) (ρ : Nat → Value) : Bool :=
  match mi.guard with
  | none => true
  | some (t, b) => decide (isB (ρ t) = some b)

/-- A read, done once more, gives what it gave. -/
def reOk (m : MI) (ρ : Nat → Value) (h : CH) : Prop :=
  match m.dst with
  | some d => readC m.sh (m.xs.map (ev ρ)) h = some (ρ d)
  | none => False

def reW : List MI → (Nat → Value) → CH → Prop
  | [], _, _ => True
  | m :: r, ρ, h => (match m.guard with
    | none => reOk m ρ h
    | some (t, b) => if isB (ρ t) = some b then reOk m ρ h else True) ∧ reW r ρ h

def drawW (P : Program) : List (MI × List MI) → (Nat → Value) → CH → ((Nat → Value) → CH → Prop) → Prop
  | [], ρ, h, K => K ρ h
  | (mi, re) :: r, ρ, h, K => match mi.guard with
    | none => stepW P mi.sh (mi.xs.map (ev ρ)) h fun v h' => reW re (upd ρ mi.dst v) h' ∧ drawW P r (upd ρ mi.dst v) h' K
    | some (t, b) => if isB (ρ t) = some b then stepW P mi.sh (mi.xs.map (ev ρ)) h fun v h' => reW re (upd ρ mi.dst v) h' ∧ drawW P r (upd ρ mi.dst v) h' K
      else reW re (upd ρ mi.dst undef) h ∧ drawW P r (upd ρ mi.dst undef) h K

theorem reW_mem {l : List MI} {ρ : Nat → Value} {h : CH} (g : reW l ρ h) {m : MI} (hm : m ∈ l) (ho : onB m ρ = true) : reOk m ρ h := by
  induction l with
  | nil => cases hm
  | cons x l ih =>
    rcases List.mem_cons.1 hm with rfl | hm
    · have := g.1
      unfold onB at ho
      split at this
      · exact this
      · rename_i t b hg
        rw [hg] at ho
        rw [if_pos (of_decide_eq_true ho)] at this
        exact this
    · exact ih g.2 hm

/-- The account, laid out place by place. -/
structure Tr (P : Program) (dl : List (MI × List MI)) (ρs : Nat → Nat → Value) (hs : Nat → CH) (vs : Nat → Value) : Prop where
  on : ∀ p mi re, dl[p]? = some (mi, re) → onB mi (ρs p) = true → Step P mi.sh (mi.xs.map (ev (ρs p))) (hs p) (vs p) (hs (p + 1))
  off : ∀ p mi re, dl[p]? = some (mi, re) → onB mi (ρs p) = false → vs p = undef ∧ hs (p + 1) = hs p
  slot : ∀ p mi re, dl[p]? = some (mi, re) → ρs (p + 1) = upd (ρs p) mi.dst (vs p)
  re : ∀ p mi re, dl[p]? = some (mi, re) → reW re (ρs (p + 1)) (hs (p + 1))

def shift {α : Type} (x : α) (f : Nat → α) : Nat → α
  | 0 => x
  | n + 1 => f n

theorem drawW_tr {P : Program} {K : (Nat → Value) → CH → Prop} : ∀ {dl : List (MI × List MI)} {ρ : Nat → Value} {h : CH}, drawW P dl ρ h K → ∃ ρs hs vs, Tr P dl ρs hs vs ∧ ρs 0 = ρ ∧ hs 0 = h ∧ K (ρs dl.length) (hs dl.length)
  | [], ρ, h, g => ⟨fun _ => ρ, fun _ => h, fun _ => undef, ⟨fun p _ _ e => by simp at e, fun p _ _ e => by simp at e, fun p _ _ e => by simp at e, fun p _ _ e => by simp at e⟩, rfl, rfl, g⟩
  | (mi, re) :: r, ρ, h, g => by
    have cons : ∀ v h', (onB mi ρ = true → Step P mi.sh (mi.xs.map (ev ρ)) h v h') → (onB mi ρ = false → v = undef ∧ h' = h) → reW re (upd ρ mi.dst v) h' → drawW P r (upd ρ mi.dst v) h' K →
        ∃ ρs hs vs, Tr P ((mi, re) :: r) ρs hs vs ∧ ρs 0 = ρ ∧ hs 0 = h ∧ K (ρs ((mi, re) :: r).length) (hs ((mi, re) :: r).length) := by
      intro v h' h1 h2 h3 h4
      obtain ⟨ρs, hs, vs, t, e1, e2, k⟩ := drawW_tr h4
      refine ⟨shift ρ ρs, shift h hs, shift v vs, ⟨?_, ?_, ?_, ?_⟩, rfl, rfl, k⟩
      · intro p mi' re' e ho
        cases p with
        | zero => simp only [List.getElem?_cons_zero, Option.some.injEq, Prod.mk.injEq] at e; obtain ⟨rfl, rfl⟩ := e; simp only [shift, e2]; exact h1 ho
        | succ p => exact t.on p mi' re' (by simpa using e) ho
      · intro p mi' re' e ho
        cases p with
        | zero => simp only [List.getElem?_cons_zero, Option.some.injEq, Prod.mk.injEq] at e; obtain ⟨rfl, rfl⟩ := e; simp only [shift, e2]; exact h2 ho
        | succ p => exact t.off p mi' re' (by simpa using e) ho
      · intro p mi' re' e
        cases p with
        | zero => simp only [List.getElem?_cons_zero, Option.some.injEq, Prod.mk.injEq] at e; obtain ⟨rfl, rfl⟩ := e; simp only [shift, e1]
        | succ p => exact t.slot p mi' re' (by simpa using e)
      · intro p mi' re' e
        cases p with
        | zero => simp only [List.getElem?_cons_zero, Option.some.injEq, Prod.mk.injEq] at e; obtain ⟨rfl, rfl⟩ := e; simp only [shift, e1, e2]; exact h3
        | succ p => exact t.re p mi' re' (by simpa using e)
    simp only [drawW] at g
    split at g
    · rename_i hg
      obtain ⟨v, h', s, h3, h4⟩ := stepW_step g
      exact cons v h' (fun _ => s) (fun ho => by simp [onB, hg] at ho) h3 h4
    · rename_i t b hg
      split at g
      · rename_i hb
        obtain ⟨v, h', s, h3, h4⟩ := stepW_step g
        exact cons v h' (fun _ => s) (fun ho => by simp [onB, hg, hb] at ho) h3 h4
      · rename_i hb
        exact cons undef h (fun ho => by simp [onB, hg, hb] at ho) (fun _ => ⟨rfl, rfl⟩) g.1 g.2

/-! ### What is checked of a region -/

def nameSlots : List Operand → List Nat
  | [] => []
  | .tmp t :: r => t :: nameSlots r
  | _ :: r => nameSlots r

def namesOf (m : MI) : List Nat := nameSlots m.xs ++ (match m.guard with | some (t, _) => [t] | none => [])

def notIn (d : Option Nat) (l : List Nat) : Bool :=
  match d with
  | some d => !l.contains d
  | none => true

def apartB (a c : MI) : Bool := notIn a.dst (namesOf c) && notIn c.dst (namesOf a) && (match a.dst, c.dst with | some x, some y => x != y | _, _ => true)

def rB (b : Array Nat) (i j : Nat) : Bool := (b.getD j 0).testBit i

def pairOk (M : List MI) (p q : Nat) : Bool :=
  match M[p]?, M[q]? with
  | some a, some c => !(kind a.sh == .eff && kind c.sh == .eff) && !(kind a.sh == .eff && kind c.sh == .read) && !(kind a.sh == .new && kind c.sh == .eff) && apartB a c &&
      (!(kind a.sh == .read && kind c.sh == .eff) || (a.dst.isSome && notIn a.dst (namesOf a) && (List.range (q + 1)).all fun r => decide (r ≤ p) || match M[r]? with
        | some m => notIn m.dst (namesOf a) && (match m.dst, a.dst with | some x, some y => x != y | _, _ => true)
        | none => true))
  | _, _ => false

def drawOk (ops : Array Oper) (ord : List Nat) (M : List MI) : Bool :=
  let n := ops.size
  let b := Region.before ops
  (ord.length == n) && (M.length == n) && ((List.range n).all fun p => decide (ord.getD p n < n) && (ord.idxOf (ord.getD p n) == p)) && ((List.range n).all fun i => decide (ord.idxOf i < n) && (ord.getD (ord.idxOf i) n == i)) &&
  (ops.toList.all fun o => o.after.toList.all fun e => decide (e.on < n)) &&
  ((List.range n).all fun q => match ops[ord.getD q n]? with
    | some o => o.after.toList.all fun e => !Region.binds .any e || decide (ord.idxOf e.on < q)
    | none => false) &&
  ((List.range n).all fun j => (List.range n).all fun i => !rB b i j || match ops[j]? with
    | some o => o.after.toList.any fun e => Region.binds .any e && (e.on == i || rB b i e.on)
    | none => false) &&
  ((List.range n).all fun q => (List.range q).all fun p => rB b (ord.getD p n) (ord.getD q n) || pairOk M p q) &&
  rankOk .any ops (Region.linearise .any ops 0) && rankOk .text ops (Region.linearise .text ops 0) && rankOk .gc ops (Region.linearise .gc ops 0)

/-- The reads that are to be done once more behind a writing operation. -/
def resOf' (b : Array Nat) (n : Nat) (ord : List Nat) (M : List MI) (q : Nat) (m : MI) : List MI :=
  if kind m.sh == .eff then (List.range q).filterMap fun p => match M[p]? with
    | some a => if kind a.sh == .read && !rB b (ord.getD p n) (ord.getD q n) then some a else none
    | none => none
  else []

def dlOf (ops : Array Oper) (ord : List Nat) (M : List MI) : List (MI × List MI) :=
  M.zipIdx.map fun (m, q) => (m, resOf' (Region.before ops) ops.size ord M q m)

def compOrd (P : Program) (N : Nat) (ops : Array Oper) : List Nat → Option (List MI)
  | [] => some []
  | i :: r => match ops[i]? with
    | some o => match compOp P N ops o, compOrd P N ops r with
      | some m, some l => some (m :: l)
      | _, _ => none
    | none => none

def priOf (P : Program) (o : Oper) : Nat :=
  match compSh P o.op with
  | some sh => match kind sh with
    | .pure => 0
    | .read => 1
    | .eff => 2
    | .new => 3
  | none => 0

/-- Reads early, what makes memory late. -/
def ordGo (P : Program) (ops : Array Oper) : Nat → List Nat → List Nat
  | 0, acc => acc.reverse
  | n + 1, acc =>
    let ready := (List.range ops.size).filter fun i => !acc.contains i && match ops[i]? with
      | some o => o.after.toList.all fun e => !Region.binds .any e || acc.contains e.on
      | none => false
    match [0, 1, 2, 3].findSome? fun p => ready.find? fun i => match ops[i]? with | some o => priOf P o == p | none => false with
    | some i => ordGo P ops n (i :: acc)
    | none => acc.reverse

def compDraw (P : Program) (N : Nat) (ops : Array Oper) : Option (List (MI × List MI)) :=
  let ord := ordGo P ops ops.size []
  match compOrd P N ops ord with
  | some M => if drawOk ops ord M = true then some (dlOf ops ord M) else none
  | none => none

end Go.Proofs.Ytdfmdclfnhgjiaa.Can
