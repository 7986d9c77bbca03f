/- Code in the short form, and functions: what is shown of the short form holds of the machine's run.
   Conditions: the type table is well formed (WF). -/
import Derived.Test.YtdfmdclfnhgjiaaCanN
set_option linter.unusedVariables false
set_option linter.unusedSimpArgs false
namespace Go.Proofs.Ytdfmdclfnhgjiaa.Can
open Go

def opsW (P : Program) : List MI → (Nat → Value) → CH → ((Nat → Value) → CH → Prop) → Prop
  | [], ρ, h, K => K ρ h
  | mi :: r, ρ, h, K => match mi.guard with
    | none => stepW P mi.sh (mi.xs.map (ev ρ)) h fun v h' => opsW P r (upd ρ mi.dst v) h' K
    | some (t, b) => if isB (ρ t) = some b then stepW P mi.sh (mi.xs.map (ev ρ)) h fun v h' => opsW P r (upd ρ mi.dst v) h' K else opsW P r (upd ρ mi.dst undef) h K

theorem opsW_mono {P : Program} {K K' : (Nat → Value) → CH → Prop} (hk : ∀ ρ h, K ρ h → K' ρ h) : ∀ {l : List MI} {ρ : Nat → Value} {h : CH}, opsW P l ρ h K → opsW P l ρ h K'
  | [], ρ, h, g => hk _ _ g
  | mi :: r, ρ, h, g => by
    simp only [opsW] at g ⊢
    split at g
    · exact stepW_mono (fun v h' => opsW_mono hk) g
    · split at g
      · rename_i hb; rw [if_pos hb]; exact stepW_mono (fun v h' => opsW_mono hk) g
      · rename_i hb; rw [if_neg hb]; exact opsW_mono hk g

theorem drawW_mono {P : Program} {K K' : (Nat → Value) → CH → Prop} (hk : ∀ ρ h, K ρ h → K' ρ h) : ∀ {l : List (MI × List MI)} {ρ : Nat → Value} {h : CH}, drawW P l ρ h K → drawW P l ρ h K'
  | [], ρ, h, g => hk _ _ g
  | (mi, re) :: r, ρ, h, g => by
    simp only [drawW] at g ⊢
    split at g
    · exact stepW_mono (fun v h' g => ⟨g.1, drawW_mono hk g.2⟩) g
    · split at g
      · rename_i hb; rw [if_pos hb]; exact stepW_mono (fun v h' g => ⟨g.1, drawW_mono hk g.2⟩) g
      · rename_i hb; rw [if_neg hb]; exact ⟨g.1, drawW_mono hk g.2⟩

inductive Ex where
  | normal | exit (id : Nat) | ret

inductive MC where
  | skip
  | reg (l : List MI)
  | draw (l : List (MI × List MI))
  | seq (a b : MC)
  | cond (c : Operand) (a b : MC)
  | block (id : Nat) (a : MC)
  | loop (a : MC)
  | exit (id : Nat)
  | ret

abbrev KT := Ex → (Nat → Value) → CH → Prop

def seqK (next : (Nat → Value) → CH → Prop) (Q : KT) : KT
  | .normal, ρ, h => next ρ h
  | .exit id, ρ, h => Q (.exit id) ρ h
  | .ret, ρ, h => Q .ret ρ h
def blockK (id : Nat) (Q : KT) : KT
  | .normal, ρ, h => Q .normal ρ h
  | .exit j, ρ, h => if j = id then Q .normal ρ h else Q (.exit j) ρ h
  | .ret, ρ, h => Q .ret ρ h

/-- n rounds at most. -/
def rounds (B : KT → (Nat → Value) → CH → Prop) (Q : KT) : Nat → (Nat → Value) → CH → Prop
  | 0, _, _ => False
  | n + 1, ρ, h => B (seqK (rounds B Q n) Q) ρ h

def wpC (P : Program) : MC → KT → (Nat → Value) → CH → Prop
  | .skip, Q, ρ, h => Q .normal ρ h
  | .reg l, Q, ρ, h => opsW P l ρ h (Q .normal)
  | .draw l, Q, ρ, h => drawW P l ρ h (Q .normal)
  | .seq a b, Q, ρ, h => wpC P a (seqK (wpC P b Q) Q) ρ h
  | .cond c a b, Q, ρ, h => match isB (ev ρ c) with
    | some t => if t = true then wpC P a Q ρ h else wpC P b Q ρ h
    | none => False
  | .block id a, Q, ρ, h => wpC P a (blockK id Q) ρ h
  | .loop a, Q, ρ, h => ∃ n, rounds (wpC P a) Q n ρ h
  | .exit id, Q, ρ, h => Q (.exit id) ρ h
  | .ret, Q, ρ, h => Q .ret ρ h

theorem seqK_mono {next next' : (Nat → Value) → CH → Prop} {Q Q' : KT} (hn : ∀ ρ h, next ρ h → next' ρ h) (hq : ∀ e ρ h, Q e ρ h → Q' e ρ h) : ∀ e ρ h, seqK next Q e ρ h → seqK next' Q' e ρ h
  | .normal, _, _, g => hn _ _ g
  | .exit _, _, _, g => hq _ _ _ g
  | .ret, _, _, g => hq _ _ _ g
theorem blockK_mono {id : Nat} {Q Q' : KT} (hq : ∀ e ρ h, Q e ρ h → Q' e ρ h) : ∀ e ρ h, blockK id Q e ρ h → blockK id Q' e ρ h
  | .normal, _, _, g => hq _ _ _ g
  | .exit j, _, _, g => by
    simp only [blockK] at g ⊢
    split at g
    · rename_i e; rw [if_pos e]; exact hq _ _ _ g
    · rename_i e; rw [if_neg e]; exact hq _ _ _ g
  | .ret, _, _, g => hq _ _ _ g
theorem rounds_mono {B : KT → (Nat → Value) → CH → Prop} (hB : ∀ {Q Q' : KT} {ρ h}, (∀ e ρ h, Q e ρ h → Q' e ρ h) → B Q ρ h → B Q' ρ h) {Q Q' : KT} (hq : ∀ e ρ h, Q e ρ h → Q' e ρ h) : ∀ {n : Nat} {ρ h}, rounds B Q n ρ h → rounds B Q' n ρ h
  | 0, _, _, g => g.elim
  | n + 1, _, _, g => hB (seqK_mono (fun _ _ => rounds_mono (B := B) hB hq) hq) g
theorem wpC_mono {P : Program} : ∀ {c : MC} {Q Q' : KT} {ρ : Nat → Value} {h : CH}, (∀ e ρ h, Q e ρ h → Q' e ρ h) → wpC P c Q ρ h → wpC P c Q' ρ h
  | .skip, _, _, _, _, hq, g => hq _ _ _ g
  | .reg l, _, _, _, _, hq, g => opsW_mono (hq .normal) g
  | .draw l, _, _, _, _, hq, g => drawW_mono (hq .normal) g
  | .seq a b, _, _, _, _, hq, g => wpC_mono (c := a) (seqK_mono (fun _ _ => wpC_mono (c := b) hq) hq) g
  | .cond c a b, _, _, _, _, hq, g => by
    simp only [wpC] at g ⊢
    split at g
    · split at g
      · rename_i e; rw [if_pos e]; exact wpC_mono (c := a) hq g
      · rename_i e; rw [if_neg e]; exact wpC_mono (c := b) hq g
    · exact g
  | .block id a, _, _, _, _, hq, g => wpC_mono (c := a) (blockK_mono hq) g
  | .loop a, _, _, _, _, hq, ⟨n, g⟩ => ⟨n, rounds_mono (B := wpC P a) (fun hq' => wpC_mono (c := a) hq') hq g⟩
  | .exit id, _, _, _, _, hq, g => hq _ _ _ g
  | .ret, _, _, _, _, hq, g => hq _ _ _ g

/-- A loop, by a relation that holds at each head and a number that goes down. -/
theorem wpC_loop {P : Program} {c : MC} {Q : KT} (I : (Nat → Value) → CH → Prop) (μ : (Nat → Value) → CH → Nat) {ρ : Nat → Value} {h : CH} (h0 : I ρ h)
    (round : ∀ ρ h, I ρ h → wpC P c (seqK (fun ρ' h' => I ρ' h' ∧ μ ρ' h' < μ ρ h) Q) ρ h) : wpC P (.loop c) Q ρ h := by
  have key : ∀ n ρ h, I ρ h → μ ρ h ≤ n → rounds (wpC P c) Q (n + 1) ρ h := by
    intro n
    induction n with
    | zero =>
      intro ρ h hI hm
      exact wpC_mono (seqK_mono (fun ρ' h' g => by have := g.2; omega) (fun _ _ _ g => g)) (round ρ h hI)
    | succ n ih =>
      intro ρ h hI hm
      exact wpC_mono (seqK_mono (fun ρ' h' g => ih ρ' h' g.1 (by have := g.2; omega)) (fun _ _ _ g => g)) (round ρ h hI)
  exact ⟨μ ρ h + 1, key _ ρ h h0 (Nat.le_refl _)⟩

/-- One way is taken. -/
theorem stepW_pick {P : Program} {sh : Sh} {vs : List Value} {h : CH} {K : Value → CH → Prop} (g : stepW P sh vs h K) : ∃ v h', K v h' ∧ h.size ≤ h'.size ∧ stepW P sh vs h fun v2 h2 => v2 = v ∧ h2 = h' := by
  have key : ∃ v h', K v h' ∧ stepW P sh vs h fun v2 h2 => v2 = v ∧ h2 = h' := by
    cases sh <;> simp only [stepW] at g ⊢ <;> first
      | exact g.elim
      | (obtain ⟨v, e, k⟩ := oW_iff.1 g; exact ⟨v, h, k, oW_iff.2 ⟨v, e, rfl, rfl⟩⟩)
      | (obtain ⟨co, f, e, k⟩ := nW_iff.1 g; exact ⟨_, _, k, nW_iff.2 ⟨co, f, e, rfl, rfl⟩⟩)
      | skip
    · split at g
      · obtain ⟨g1, g2, g3⟩ := g
        obtain ⟨h', e, k⟩ := hW_iff.1 g3
        exact ⟨_, h', k, g1, g2, hW_iff.2 ⟨h', e, rfl, rfl⟩⟩
      · exact g.elim
    · split at g
      · obtain ⟨v, h', e, k⟩ := pW_iff.1 g
        exact ⟨v, h', k, pW_iff.2 ⟨v, h', e, rfl, rfl⟩⟩
      · exact g.elim
    · split at g
      · obtain ⟨v, h', e, k⟩ := pW_iff.1 g
        exact ⟨v, h', k, pW_iff.2 ⟨v, h', e, rfl, rfl⟩⟩
      · exact g.elim
    · obtain ⟨v, h', e, k⟩ := g
      exact ⟨v, h', k, v, h', e, rfl, rfl⟩
    · split at g
      · obtain ⟨g1, v, h', e, k⟩ := g
        exact ⟨v, h', k, g1, v, h', e, rfl, rfl⟩
      · exact g.elim
    · split at g
      · obtain ⟨v, h', e, k⟩ := pW_iff.1 g
        exact ⟨v, h', k, pW_iff.2 ⟨v, h', e, rfl, rfl⟩⟩
      · exact g.elim
  obtain ⟨v, h', k, p⟩ := key
  obtain ⟨v2, h2, s, e1, e2⟩ := stepW_step p
  subst e1; subst e2
  exact ⟨v2, h2, k, s.size, p⟩

theorem opsW_pick {P : Program} {K : (Nat → Value) → CH → Prop} : ∀ {l : List MI} {ρ : Nat → Value} {h : CH}, opsW P l ρ h K → ∃ ρ' h', K ρ' h' ∧ h.size ≤ h'.size ∧ opsW P l ρ h fun ρ2 h2 => ρ2 = ρ' ∧ h2 = h'
  | [], ρ, h, g => ⟨ρ, h, g, Nat.le_refl _, rfl, rfl⟩
  | mi :: r, ρ, h, g => by
    simp only [opsW] at g ⊢
    split at g
    · obtain ⟨v, h1, k, s1, p⟩ := stepW_pick g
      obtain ⟨ρ', h', k', s2, q⟩ := opsW_pick k
      exact ⟨ρ', h', k', Nat.le_trans s1 s2, stepW_mono (fun v2 h2 ⟨e1, e2⟩ => by subst e1; subst e2; exact q) p⟩
    · split at g
      · rename_i hb
        obtain ⟨v, h1, k, s1, p⟩ := stepW_pick g
        obtain ⟨ρ', h', k', s2, q⟩ := opsW_pick k
        exact ⟨ρ', h', k', Nat.le_trans s1 s2, by rw [if_pos hb]; exact stepW_mono (fun v2 h2 ⟨e1, e2⟩ => by subst e1; subst e2; exact q) p⟩
      · rename_i hb
        obtain ⟨ρ', h', k', s2, q⟩ := opsW_pick g
        exact ⟨ρ', h', k', s2, by rw [if_neg hb]; exact q⟩

theorem drawW_pick {P : Program} {K : (Nat → Value) → CH → Prop} : ∀ {l : List (MI × List MI)} {ρ : Nat → Value} {h : CH}, drawW P l ρ h K → ∃ ρ' h', K ρ' h' ∧ h.size ≤ h'.size ∧ drawW P l ρ h fun ρ2 h2 => ρ2 = ρ' ∧ h2 = h'
  | [], ρ, h, g => ⟨ρ, h, g, Nat.le_refl _, rfl, rfl⟩
  | (mi, re) :: r, ρ, h, g => by
    simp only [drawW] at g ⊢
    split at g
    · obtain ⟨v, h1, k, s1, p⟩ := stepW_pick g
      obtain ⟨ρ', h', k', s2, q⟩ := drawW_pick k.2
      exact ⟨ρ', h', k', Nat.le_trans s1 s2, stepW_mono (fun v2 h2 ⟨e1, e2⟩ => by subst e1; subst e2; exact ⟨k.1, q⟩) p⟩
    · split at g
      · rename_i hb
        obtain ⟨v, h1, k, s1, p⟩ := stepW_pick g
        obtain ⟨ρ', h', k', s2, q⟩ := drawW_pick k.2
        exact ⟨ρ', h', k', Nat.le_trans s1 s2, by rw [if_pos hb]; exact stepW_mono (fun v2 h2 ⟨e1, e2⟩ => by subst e1; subst e2; exact ⟨k.1, q⟩) p⟩
      · rename_i hb
        obtain ⟨ρ', h', k', s2, q⟩ := drawW_pick g.2
        exact ⟨ρ', h', k', s2, by rw [if_neg hb]; exact ⟨g.1, q⟩⟩

def isK (e : Ex) (ρ : Nat → Value) (h : CH) : KT := fun e2 ρ2 h2 => e2 = e ∧ ρ2 = ρ ∧ h2 = h

theorem rounds_pick {B : KT → (Nat → Value) → CH → Prop} (hB : ∀ {Q Q' : KT} {ρ h}, (∀ e ρ h, Q e ρ h → Q' e ρ h) → B Q ρ h → B Q' ρ h)
    (hp : ∀ {Q : KT} {ρ h}, B Q ρ h → ∃ e ρ' h', Q e ρ' h' ∧ h.size ≤ h'.size ∧ B (isK e ρ' h') ρ h) {Q : KT} : ∀ {n : Nat} {ρ h}, rounds B Q n ρ h → ∃ e ρ' h', Q e ρ' h' ∧ h.size ≤ h'.size ∧ rounds B (isK e ρ' h') n ρ h
  | 0, _, _, g => g.elim
  | n + 1, _, _, g => by
    obtain ⟨e, ρ1, h1, k, s1, p⟩ := hp g
    cases e with
    | normal =>
      obtain ⟨e, ρ', h', k', s2, q⟩ := rounds_pick (B := B) hB hp (n := n) k
      exact ⟨e, ρ', h', k', Nat.le_trans s1 s2, hB (fun e2 ρ2 h2 ⟨a1, a2, a3⟩ => by subst a1; subst a2; subst a3; exact q) p⟩
    | exit id => exact ⟨_, _, _, k, s1, hB (fun e2 ρ2 h2 ⟨a1, a2, a3⟩ => by subst a1; subst a2; subst a3; exact ⟨rfl, rfl, rfl⟩) p⟩
    | ret => exact ⟨_, _, _, k, s1, hB (fun e2 ρ2 h2 ⟨a1, a2, a3⟩ => by subst a1; subst a2; subst a3; exact ⟨rfl, rfl, rfl⟩) p⟩

theorem wpC_pick {P : Program} : ∀ {c : MC} {Q : KT} {ρ : Nat → Value} {h : CH}, wpC P c Q ρ h → ∃ e ρ' h', Q e ρ' h' ∧ h.size ≤ h'.size ∧ wpC P c (isK e ρ' h') ρ h
  | .skip, _, ρ, h, g => ⟨_, _, _, g, Nat.le_refl _, rfl, rfl, rfl⟩
  | .reg l, _, _, _, g => by
    obtain ⟨ρ', h', k, s1, p⟩ := opsW_pick g
    exact ⟨.normal, ρ', h', k, s1, opsW_mono (fun _ _ ⟨a, b⟩ => ⟨rfl, a, b⟩) p⟩
  | .draw l, _, _, _, g => by
    obtain ⟨ρ', h', k, s1, p⟩ := drawW_pick g
    exact ⟨.normal, ρ', h', k, s1, drawW_mono (fun _ _ ⟨a, b⟩ => ⟨rfl, a, b⟩) p⟩
  | .seq a b, _, _, _, g => by
    obtain ⟨e, ρ1, h1, k, s1, p⟩ := wpC_pick (c := a) g
    cases e with
    | normal =>
      obtain ⟨e, ρ', h', k', s2, q⟩ := wpC_pick (c := b) k
      exact ⟨e, ρ', h', k', Nat.le_trans s1 s2, wpC_mono (c := a) (fun e2 ρ2 h2 ⟨a1, a2, a3⟩ => by subst a1; subst a2; subst a3; exact q) p⟩
    | exit id => exact ⟨_, _, _, k, s1, wpC_mono (c := a) (fun e2 ρ2 h2 ⟨a1, a2, a3⟩ => by subst a1; subst a2; subst a3; exact ⟨rfl, rfl, rfl⟩) p⟩
    | ret => exact ⟨_, _, _, k, s1, wpC_mono (c := a) (fun e2 ρ2 h2 ⟨a1, a2, a3⟩ => by subst a1; subst a2; subst a3; exact ⟨rfl, rfl, rfl⟩) p⟩
  | .cond c a b, _, _, _, g => by
    simp only [wpC] at g ⊢
    split at g
    · split at g
      · rename_i e
        obtain ⟨e2, ρ', h', k, s1, p⟩ := wpC_pick (c := a) g
        exact ⟨e2, ρ', h', k, s1, by rw [if_pos e]; exact p⟩
      · rename_i e
        obtain ⟨e2, ρ', h', k, s1, p⟩ := wpC_pick (c := b) g
        exact ⟨e2, ρ', h', k, s1, by rw [if_neg e]; exact p⟩
    · exact g.elim
  | .block id a, _, _, _, g => by
    obtain ⟨e, ρ1, h1, k, s1, p⟩ := wpC_pick (c := a) g
    cases e with
    | normal => exact ⟨_, _, _, k, s1, wpC_mono (c := a) (fun e2 ρ2 h2 ⟨a1, a2, a3⟩ => by subst a1; subst a2; subst a3; exact ⟨rfl, rfl, rfl⟩) p⟩
    | ret => exact ⟨_, _, _, k, s1, wpC_mono (c := a) (fun e2 ρ2 h2 ⟨a1, a2, a3⟩ => by subst a1; subst a2; subst a3; exact ⟨rfl, rfl, rfl⟩) p⟩
    | exit j =>
      simp only [blockK] at k
      split at k
      · rename_i hj
        exact ⟨_, _, _, k, s1, wpC_mono (c := a) (fun e2 ρ2 h2 ⟨a1, a2, a3⟩ => by subst a1; subst a2; subst a3; simp only [blockK, if_pos hj]; exact ⟨rfl, rfl, rfl⟩) p⟩
      · rename_i hj
        exact ⟨_, _, _, k, s1, wpC_mono (c := a) (fun e2 ρ2 h2 ⟨a1, a2, a3⟩ => by subst a1; subst a2; subst a3; simp only [blockK, if_neg hj]; exact ⟨rfl, rfl, rfl⟩) p⟩
  | .loop a, _, _, _, ⟨n, g⟩ => by
    obtain ⟨e, ρ', h', k, s1, p⟩ := rounds_pick (B := wpC P a) (fun hq => wpC_mono (c := a) hq) (fun g => wpC_pick (c := a) g) g
    exact ⟨e, ρ', h', k, s1, n, p⟩
  | .exit id, _, ρ, h, g => ⟨_, _, _, g, Nat.le_refl _, rfl, rfl, rfl⟩
  | .ret, _, ρ, h, g => ⟨_, _, _, g, Nat.le_refl _, rfl, rfl, rfl⟩


/-! ### What the machine does -/

def compOps (P : Program) (N : Nat) (ops : Array Oper) : List Oper → Option (List MI)
  | [] => some []
  | o :: r => match compOp P N ops o, compOps P N ops r with
    | some mi, some l => some (mi :: l)
    | _, _ => none

def compC (P : Program) (N : Nat) : Code → Option MC
  | .skip => some .skip
  | .region _ ops false => (compOps P N ops ops.toList).map .reg
  | .region _ ops true => (compDraw P N ops).map .draw
  | .seq a b => match compC P N a, compC P N b with
    | some x, some y => some (.seq x y)
    | _, _ => none
  | .cond c a b => if okOpd c = true then match compC P N a, compC P N b with
    | some x, some y => some (.cond c x y)
    | _, _ => none
    else none
  | .block id a => (compC P N a).map (.block id)
  | .loop a => (compC P N a).map .loop
  | .exit id => some (.exit id)
  | .ret => some .ret
  | _ => none

section
variable {P : Program} {ι : Map} {N : Nat} {ρ : Nat → Value} {a : Act} {w : World} {h : CH}

theorem ops_sound (hwf : WF P) {ops : Array Oper} {Q : Exit → Act → World → Prop} {K : (Nat → Value) → CH → Prop} : ∀ (l : List Oper) (ml : List MI) {ι : Map} {ρ : Nat → Value} {a : Act} {w : World} {h : CH}, compOps P N ops l = some ml → AR ι N ρ a → HR ι h w →
    opsW P ml ρ h K → (∀ a' w', After P ι N h w K a' w' → Q .normal a' w') → wpList P ops Q l a w
  | [], ml, ι, ρ, a, w, h, hc, hA, hR, hw, hq => by
    simp only [compOps, Option.some.injEq] at hc; subst hc
    exact wpList_nil (hq _ _ ⟨ι, ρ, h, hw, hA, hR, Fr.refl _ _ _⟩)
  | o :: r, ml, ι, ρ, a, w, h, hc, hA, hR, hw, hq => by
    simp only [compOps] at hc
    split at hc
    · rename_i mi l hm hl
      cases hc
      obtain ⟨c1, c2, c3, c4, c5, c6⟩ := compOp_some hm
      have hwant := wanted_eq hA hm
      have run : stepW P mi.sh (mi.xs.map (ev ρ)) h (fun v h' => opsW P l (upd ρ mi.dst v) h' K) → Region.wanted o (yielded ops a.tmps) = true → wpList P ops Q (o :: r) a w := by
        intro hst hwt
        refine wpList_step (fun K' hK' => ?_)
        rw [if_pos hwt]
        obtain ⟨v, h', hs, hn⟩ := stepW_step hst
        rw [c5] at hs
        refine step_sound hwf hA hR c1 c2 hs ?_
        rintro a' w' ⟨v', rfl, κ, q1, q2, q3⟩
        refine hK' _ _ (ops_sound hwf r l hl ((hA.mono q3.le).put c3 q1) q2 (by rw [← c4]; exact hn) (fun a' w' g => hq _ _ (g.trans q3)))
      have skip : opsW P l (upd ρ mi.dst undef) h K → Region.wanted o (yielded ops a.tmps) = false → wpList P ops Q (o :: r) a w := by
        intro hst hwt
        refine wpList_step (fun K' hK' => ?_)
        rw [if_neg (by rw [hwt]; simp)]
        exact hK' _ _ (ops_sound hwf r l hl (hA.put c3 (.undef ι)) hR (by rw [← c4]; exact hst) hq)
      simp only [opsW] at hw
      split at hw
      · rename_i hg
        exact run hw (by rw [hwant, hg])
      · rename_i t b hg
        split at hw
        · rename_i hb
          exact run hw (by rw [hwant, hg]; simp [hb])
        · rename_i hb
          exact skip hw (by rw [hwant, hg]; simp [hb])
    · cases hc

def exOf : Ex → Exit
  | .normal => .normal
  | .exit id => .exit id
  | .ret => .ret

/-- What a piece of code leaves, by its way out. -/
def Left (ι : Map) (N : Nat) (h : CH) (w : World) (Q : KT) : Exit → Act → World → Prop :=
  fun e a' w' => ∃ x κ ρ' h', e = exOf x ∧ Q x ρ' h' ∧ AR κ N ρ' a' ∧ HR κ h' w' ∧ Fr ι h w κ h' w'

theorem Left.trans {κ : Map} {h1 : CH} {w1 : World} {Q : KT} (f : Fr ι h w κ h1 w1) {e : Exit} {a' : Act} {w' : World} (g : Left κ N h1 w1 Q e a' w') : Left ι N h w Q e a' w' := by
  obtain ⟨x, μ, ρ', h', e1, k, r1, r2, r3⟩ := g
  exact ⟨x, μ, ρ', h', e1, k, r1, r2, f.trans r3⟩

theorem code_sound (hwf : WF P) : ∀ (c : Code) (m : MC) {ι : Map} {ρ : Nat → Value} {a : Act} {w : World} {h : CH} {Q : KT}, compC P N c = some m → AR ι N ρ a → HR ι h w → wpC P m Q ρ h → c.wp P (Left ι N h w Q) a w
  | .skip, m, ι, ρ, a, w, h, Q, hc, hA, hR, hw => by
    simp only [compC, Option.some.injEq] at hc; subst hc
    exact wp_skip ⟨.normal, ι, ρ, h, rfl, hw, hA, hR, Fr.refl _ _ _⟩
  | .region id ops false, m, ι, ρ, a, w, h, Q, hc, hA, hR, hw => by
    simp only [compC, Option.map_eq_some_iff] at hc
    obtain ⟨l, hl, rfl⟩ := hc
    refine wp_region_list (ops_sound (K := Q .normal) hwf ops.toList l hl hA hR hw ?_)
    rintro a' w' ⟨κ, ρ', h', k, r1, r2, r3⟩
    exact ⟨.normal, κ, ρ', h', rfl, k, r1, r2, r3⟩
  | .region id ops true, m, ι, ρ, a, w, h, Q, hc, hA, hR, hw => by
    simp only [compC, Option.map_eq_some_iff] at hc
    obtain ⟨l, hl, rfl⟩ := hc
    refine draw_sound (K := Q .normal) hl hA hR hw ?_
    rintro a' w' ⟨κ, ρ', h', k, r1, r2, r3⟩
    exact ⟨.normal, κ, ρ', h', rfl, k, r1, r2, r3⟩
  | .seq x y, m, ι, ρ, a, w, h, Q, hc, hA, hR, hw => by
    simp only [compC] at hc
    split at hc
    · rename_i mx my hx hy
      cases hc
      refine wp_seq (wp_mono (code_sound hwf x mx hx hA hR hw) ?_)
      rintro e a' w' ⟨xx, κ, ρ', h', rfl, k, r1, r2, r3⟩
      cases xx with
      | normal => exact wp_mono (code_sound hwf y my hy r1 r2 k) (fun e a w g => g.trans r3)
      | exit id => exact ⟨.exit id, κ, ρ', h', rfl, k, r1, r2, r3⟩
      | ret => exact ⟨.ret, κ, ρ', h', rfl, k, r1, r2, r3⟩
    · cases hc
  | .cond c x y, m, ι, ρ, a, w, h, Q, hc, hA, hR, hw => by
    simp only [compC] at hc
    split at hc
    · rename_i hok
      split at hc
      · rename_i mx my hx hy
        cases hc
        have rv := hA.ev hok
        simp only [wpC] at hw
        split at hw
        · rename_i t ht
          have hb : a.eval c = .bool t := by
            have := isB_rel rv
            rw [ht] at this
            revert this
            cases a.eval c <;> simp [isB]
          refine wp_cond hb ?_
          cases t
          · exact code_sound hwf y my hy hA hR (by simpa using hw)
          · exact code_sound hwf x mx hx hA hR (by simpa using hw)
        · exact hw.elim
      · cases hc
    · cases hc
  | .block id x, m, ι, ρ, a, w, h, Q, hc, hA, hR, hw => by
    simp only [compC, Option.map_eq_some_iff] at hc
    obtain ⟨mx, hx, rfl⟩ := hc
    refine wp_block (wp_mono (code_sound hwf x mx hx hA hR hw) ?_)
    rintro e a' w' ⟨xx, κ, ρ', h', rfl, k, r1, r2, r3⟩
    cases xx with
    | normal => exact ⟨.normal, κ, ρ', h', rfl, k, r1, r2, r3⟩
    | ret => exact ⟨.ret, κ, ρ', h', rfl, k, r1, r2, r3⟩
    | exit j =>
      simp only [blockK] at k
      simp only [exOf, Exit.inBlock]
      split at k
      · rename_i hj; rw [if_pos hj]; exact ⟨.normal, κ, ρ', h', rfl, k, r1, r2, r3⟩
      · rename_i hj; rw [if_neg hj]; exact ⟨.exit j, κ, ρ', h', rfl, k, r1, r2, r3⟩
  | .loop x, m, ι, ρ, a, w, h, Q, hc, hA, hR, hw => by
    simp only [compC, Option.map_eq_some_iff] at hc
    obtain ⟨mx, hx, rfl⟩ := hc
    obtain ⟨n, hn⟩ := hw
    let need : Act → World → Nat → Prop := fun a' w' n => ∃ κ ρ' h', rounds (wpC P mx) Q n ρ' h' ∧ AR κ N ρ' a' ∧ HR κ h' w' ∧ Fr ι h w κ h' w'
    have dec : ∀ a' w', (∃ n, need a' w' n) → ∃ n, need a' w' n ∧ ∀ k, k < n → ¬ need a' w' k := by
      intro a' w' ⟨n, hn⟩
      induction n using Nat.strongRecOn with
      | _ n ih =>
        by_cases hlow : ∃ k, k < n ∧ need a' w' k
        · obtain ⟨k, hk, hkn⟩ := hlow; exact ih k hk hkn
        · exact ⟨n, hn, fun k hk hkn => hlow ⟨k, hk, hkn⟩⟩
    classical
    let μ : Act → World → Nat := fun a' w' => if hh : ∃ n, need a' w' n then (dec a' w' hh).choose else 0
    have μ_le : ∀ a' w' n, need a' w' n → μ a' w' ≤ n := by
      intro a' w' n hn
      have hh : ∃ n, need a' w' n := ⟨n, hn⟩
      simp only [μ, dif_pos hh]
      have := (dec a' w' hh).choose_spec.2
      exact Nat.le_of_not_lt (fun hlt => this n hlt hn)
    have μ_need : ∀ a' w', (∃ n, need a' w' n) → need a' w' (μ a' w') := by
      intro a' w' hh
      simp only [μ, dif_pos hh]
      exact (dec a' w' hh).choose_spec.1
    refine wp_loop (fun a' w' => ∃ n, need a' w' n) μ ⟨n, ι, ρ, h, hn, hA, hR, Fr.refl _ _ _⟩ ?_
    intro a1 w1 hh
    have hm := μ_need a1 w1 hh
    obtain ⟨κ, ρ1, h1, k, r1, r2, r3⟩ := hm
    generalize hmu : μ a1 w1 = mu at k
    cases mu with
    | zero => exact k.elim
    | succ mu =>
      refine wp_mono (code_sound hwf x mx hx r1 r2 k) ?_
      rintro e a' w' ⟨xx, κ2, ρ', h', rfl, k', q1, q2, q3⟩
      cases xx with
      | normal =>
        have hnd : need a' w' mu := ⟨κ2, ρ', h', k', q1, q2, r3.trans q3⟩
        exact ⟨⟨mu, hnd⟩, by have := μ_le a' w' mu hnd; omega⟩
      | exit id => exact ⟨.exit id, κ2, ρ', h', rfl, k', q1, q2, r3.trans q3⟩
      | ret => exact ⟨.ret, κ2, ρ', h', rfl, k', q1, q2, r3.trans q3⟩
  | .exit id, m, ι, ρ, a, w, h, Q, hc, hA, hR, hw => by
    simp only [compC, Option.some.injEq] at hc; subst hc
    exact wp_exit ⟨.exit id, ι, ρ, h, rfl, hw, hA, hR, Fr.refl _ _ _⟩
  | .ret, m, ι, ρ, a, w, h, Q, hc, hA, hR, hw => by
    simp only [compC, Option.some.injEq] at hc; subst hc
    exact wp_ret ⟨.ret, ι, ρ, h, rfl, hw, hA, hR, Fr.refl _ _ _⟩
  | .rangeFunc _ _ _ _, m, ι, ρ, a, w, h, Q, hc, hA, hR, hw => by simp [compC] at hc
  | .scope _, m, ι, ρ, a, w, h, Q, hc, hA, hR, hw => by simp [compC] at hc
  | .label _, m, ι, ρ, a, w, h, Q, hc, hA, hR, hw => by simp [compC] at hc
  | .goto _, m, ι, ρ, a, w, h, Q, hc, hA, hR, hw => by simp [compC] at hc
  | .refuse _, m, ι, ρ, a, w, h, Q, hc, hA, hR, hw => by simp [compC] at hc

end
end Go.Proofs.Ytdfmdclfnhgjiaa.Can
