/- Draw regions: the proof.
   Conditions: checked by drawOk. -/
import Derived.Test.YtdfmdclfnhgjiaaCanK
set_option linter.unusedVariables false
set_option linter.unusedSimpArgs false
namespace Go.Proofs.Ytdfmdclfnhgjiaa.Can
open Go

theorem amap_congr {α β : Type} {f g : α → β} {x : Array α} (h : ∀ u ∈ x.toList, f u = g u) : x.map f = x.map g := by
  apply Array.ext'
  simp only [Array.toList_map]
  exact List.map_congr_left h

/-- An operation looks at its operands alone. -/
theorem execOp_congr {P : Program} {a a2 : Act} {o : Oper} {sh : Sh} (hc : compSh P o.op = some sh) (h : ∀ x ∈ opdsOf o.op, a.eval x = a2.eval x) : execOp a.eval o = execOp a2.eval o := by
  obtain ⟨dst, op, type, pos, after, guard⟩ := o
  simp only at hc h
  cases op
  case move x => simp only [execOp, h x (by simp [opdsOf, Op.operands])]
  case assign x => simp only [execOp, h x (by simp [opdsOf, Op.operands])]
  case pick c x y => simp only [execOp, h c (by simp [opdsOf, Op.operands]), h x (by simp [opdsOf, Op.operands]), h y (by simp [opdsOf, Op.operands])]
  case alloc t => rfl
  case box t x => simp only [execOp, h x (by simp [opdsOf, Op.operands])]
  case build t ps =>
    have : (ps.map fun p => (p.1, a.eval p.2)) = ps.map fun p => (p.1, a2.eval p.2) := amap_congr fun u hu => by rw [h u.2 (by simp only [opdsOf, List.mem_map]; exact ⟨u, hu, rfl⟩)]
    simp only [execOp, this]
  case buildSlice t n ps =>
    have : (ps.map fun p => (p.1, a.eval p.2)) = ps.map fun p => (p.1, a2.eval p.2) := amap_congr fun u hu => by rw [h u.2 (by simp only [opdsOf, List.mem_map]; exact ⟨u, hu, rfl⟩)]
    simp only [execOp, this]
  case load t x => simp only [execOp, h x (by simp [opdsOf, Op.operands])]
  case store t x y => simp only [execOp, h x (by simp [opdsOf, Op.operands]), h y (by simp [opdsOf, Op.operands])]
  case nilCheck x => simp only [execOp, h x (by simp [opdsOf, Op.operands])]
  case binOp op t x y yt => simp only [execOp, h x (by simp [opdsOf, Op.operands]), h y (by simp [opdsOf, Op.operands])]
  case unOp op t x => simp only [execOp, h x (by simp [opdsOf, Op.operands])]
  case convert s d x => simp only [execOp, h x (by simp [opdsOf, Op.operands])]
  case makeFunc fn x y =>
    have h1 : x.map a.eval = x.map a2.eval := amap_congr fun u hu => h u (by simp only [opdsOf, Op.operands, Array.toList_append, List.mem_append]; exact .inl hu)
    have h2 : y.map a.eval = y.map a2.eval := amap_congr fun u hu => h u (by simp only [opdsOf, Op.operands, Array.toList_append, List.mem_append]; exact .inr hu)
    simp only [execOp, h1, h2]
  case makeSlice t x y => simp only [execOp, h x (by simp [opdsOf, Op.operands]), h y (by simp [opdsOf, Op.operands])]
  case makeInterface t x => simp only [execOp, h x (by simp [opdsOf, Op.operands])]
  case slice t x lo hi mx =>
    have e : ∀ o : Option Operand, (∀ y ∈ o.toList, a.eval y = a2.eval y) → o.map a.eval = o.map a2.eval := by
      intro o ho
      cases o with
      | none => rfl
      | some y => simp only [Option.map_some, ho y (by simp)]
    rw [slice_opds] at h
    have h1 := e lo (fun y hy => h y (by simp only [List.mem_cons, List.mem_append]; exact .inr (.inl hy)))
    have h2 := e hi (fun y hy => h y (by simp only [List.mem_cons, List.mem_append]; exact .inr (.inr (.inl hy))))
    have h3 := e mx (fun y hy => h y (by simp only [List.mem_cons, List.mem_append]; exact .inr (.inr (.inr (.inl hy)))))
    simp only [execOp, h x (by simp), h1, h2, h3]
  case fieldAddr t x f => simp only [execOp, h x (by simp [opdsOf, Op.operands])]
  case field t x f => simp only [execOp, h x (by simp [opdsOf, Op.operands])]
  case indexAddr t x y => simp only [execOp, h x (by simp [opdsOf, Op.operands]), h y (by simp [opdsOf, Op.operands])]
  case index t x y => simp only [execOp, h x (by simp [opdsOf, Op.operands]), h y (by simp [opdsOf, Op.operands])]
  case extract x i => simp only [execOp, h x (by simp [opdsOf, Op.operands])]
  case panic x => simp only [execOp, h x (by simp [opdsOf, Op.operands])]
  case call c =>
    obtain ⟨callee, args, tys⟩ := c
    cases callee with
    | invoke r m => simp [compSh] at hc
    | builtin b =>
      have h1 : args.map a.eval = args.map a2.eval := amap_congr fun u hu => h u hu
      simp only [execOp, resolve, h1]
    | value f =>
      cases f with
      | const _ => simp [compSh] at hc
      | global _ => simp [compSh] at hc
      | func f =>
        have h1 : args.map a.eval = args.map a2.eval := amap_congr fun u hu => h u hu
        simp only [execOp, resolve, h1, Act.eval]
      | tmp t =>
        have h1 : args.map a.eval = args.map a2.eval := amap_congr fun u hu => h u (by simp only [opdsOf, List.mem_cons]; exact .inr hu)
        simp only [execOp, resolve, h1, h (.tmp t) (by simp [opdsOf])]
  all_goals simp [compSh] at hc

theorem RunsTo.congr {P : Program} {a a2 : Act} {w : World} {o : Oper} {R : Value → World → Prop} (he : execOp a.eval o = execOp a2.eval o) (g : RunsTo P a w o R) : RunsTo P a2 w o R := by
  unfold RunsTo at g ⊢
  rw [← he]; exact g

/-! ### The static facts -/

structure DF (P : Program) (N : Nat) (ops : Array Oper) (o : Nat → Nat) (M : Nat → Option MI) (n : Nat) (bf : Nat → Nat → Bool) : Prop where
  size : n = ops.size
  lt : ∀ p, p < n → o p < n
  pos : ∀ i, i < n → ∃ p, p < n ∧ o p = i
  inj : ∀ p q, p < n → q < n → o p = o q → p = q
  comp : ∀ p, p < n → ∃ oi mi, ops[o p]? = some oi ∧ M p = some mi ∧ compOp P N ops oi = some mi
  edge : ∀ q, q < n → ∀ oi, ops[o q]? = some oi → ∀ e ∈ oi.after, Region.binds .any e = true → ∃ p, p < q ∧ o p = e.on
  cl : ∀ p q, p < n → q < n → bf p q = true → ∃ oi e, ops[o q]? = some oi ∧ e ∈ oi.after ∧ Region.binds .any e = true ∧ (e.on = o p ∨ ∀ r, r < n → o r = e.on → bf p r = true)
  pair : ∀ p q a c, p < q → q < n → bf p q = false → M p = some a → M q = some c → ¬ (kind a.sh = .eff ∧ kind c.sh = .eff) ∧ ¬ (kind a.sh = .eff ∧ kind c.sh = .read) ∧ ¬ (kind a.sh = .new ∧ kind c.sh = .eff) ∧ apartB a c = true ∧
    (kind a.sh = .read → kind c.sh = .eff → (∃ d, a.dst = some d) ∧ notIn a.dst (namesOf a) = true ∧ ∀ r m, p < r → r ≤ q → M r = some m → notIn m.dst (namesOf a) = true ∧ ∀ x, m.dst = some x → a.dst ≠ some x)
  rank : ∀ m, ∃ L, rankOk m ops L = true
  rng : ∀ (i : Nat) (oi : Oper), ops[i]? = some oi → ∀ e ∈ oi.after, e.on < ops.size

theorem compOrd_get {P : Program} {N : Nat} {ops : Array Oper} : ∀ {ord : List Nat} {M : List MI}, compOrd P N ops ord = some M → M.length = ord.length ∧ ∀ (p i : Nat), ord[p]? = some i → ∃ (oi : Oper) (mi : MI), ops[i]? = some oi ∧ M[p]? = some mi ∧ compOp P N ops oi = some mi
  | [], M, h => by simp only [compOrd, Option.some.injEq] at h; subst h; exact ⟨rfl, fun p i e => by simp at e⟩
  | i :: r, M, h => by
    simp only [compOrd] at h
    split at h
    · rename_i oi ho
      split at h
      · rename_i m l hm hl
        cases h
        obtain ⟨e1, e2⟩ := compOrd_get hl
        refine ⟨by simp [e1], fun p j e => ?_⟩
        cases p with
        | zero => simp at e; subst e; exact ⟨oi, m, ho, rfl, hm⟩
        | succ p => exact e2 p j (by simpa using e)
      · cases h
    · cases h

theorem df_of {P : Program} {N : Nat} {ops : Array Oper} {ord : List Nat} {M : List MI} (hc : compOrd P N ops ord = some M) (hok : drawOk ops ord M = true) :
    DF P N ops (fun p => ord.getD p ops.size) (fun p => M[p]?) ops.size (fun p q => rB (Region.before ops) (ord.getD p ops.size) (ord.getD q ops.size)) := by
  obtain ⟨hlen, hget⟩ := compOrd_get hc
  simp only [drawOk, Bool.and_eq_true, List.all_eq_true, List.mem_range, decide_eq_true_eq, beq_iff_eq, Bool.or_eq_true, Bool.not_eq_true'] at hok
  obtain ⟨⟨⟨⟨⟨⟨⟨⟨⟨⟨h1, h2⟩, h3⟩, h4⟩, h5⟩, h6⟩, h7⟩, h8⟩, h9⟩, h10⟩, h11⟩ := hok
  have hinj : ∀ p q, p < ops.size → q < ops.size → ord.getD p ops.size = ord.getD q ops.size → p = q := by
    intro p q hp hq e
    rw [← (h3 p hp).2, ← (h3 q hq).2, e]
  refine ⟨rfl, fun p hp => (h3 p hp).1, fun i hi => ⟨ord.idxOf i, (h4 i hi).1, (h4 i hi).2⟩, hinj, ?_, ?_, ?_, ?_, ?_, ?_⟩
  · intro p hp
    have hp2 : p < ord.length := by omega
    obtain ⟨oi, mi, q1, q2, q3⟩ := hget p ord[p] (List.getElem?_eq_getElem hp2)
    exact ⟨oi, mi, by simpa [List.getD, hp2] using q1, q2, q3⟩
  · intro q hq oi ho e he hbe
    have := h6 q hq
    rw [ho] at this
    simp only [List.all_eq_true, Bool.or_eq_true, Bool.not_eq_true', decide_eq_true_eq] at this
    have h := (this e (by simpa using he)).resolve_left (by rw [hbe]; simp)
    have hon : e.on < ops.size := by
      have := h5 oi (by simpa using Array.mem_of_getElem? ho) e (by simpa using he)
      exact this
    exact ⟨ord.idxOf e.on, h, (h4 _ hon).2⟩
  · intro p q hp hq hb
    have := (h7 _ (h3 q hq).1 _ (h3 p hp).1).resolve_left (by rw [hb]; simp)
    split at this
    · rename_i oi ho
      simp only [List.any_eq_true, Bool.and_eq_true, Bool.or_eq_true, beq_iff_eq] at this
      obtain ⟨e, he, hbe, h⟩ := this
      refine ⟨oi, e, ho, by simpa using he, hbe, ?_⟩
      rcases h with h | h
      · exact .inl h
      · exact .inr (fun r hr er => by rw [er]; exact h)
    · cases this
  · intro p q a c hpq hq hb ha hc'
    have := (h8 q hq p hpq).resolve_left (by rw [hb]; simp)
    unfold pairOk at this
    rw [ha, hc'] at this
    simp only [Bool.and_eq_true, Bool.not_eq_true', Bool.and_eq_false_iff, beq_eq_false_iff_ne, Bool.or_eq_true, List.all_eq_true, List.mem_range, decide_eq_true_eq] at this
    obtain ⟨⟨⟨⟨g1, g2⟩, g3⟩, g4⟩, g5⟩ := this
    refine ⟨fun ⟨x, y⟩ => ?_, fun ⟨x, y⟩ => ?_, fun ⟨x, y⟩ => ?_, g4, fun x y => ?_⟩
    · rcases g1 with g | g <;> exact g (by assumption)
    · rcases g2 with g | g <;> exact g (by assumption)
    · rcases g3 with g | g <;> exact g (by assumption)
    · have g := g5.resolve_left (fun z => by rcases z with z | z <;> exact z (by assumption))
      refine ⟨Option.isSome_iff_exists.1 g.1.1, g.1.2, fun r m hr1 hr2 hm => ?_⟩
      have := (g.2 r (by omega)).resolve_left (by omega)
      rw [hm] at this
      simp only [Bool.and_eq_true] at this
      refine ⟨this.1, fun x hx hy => ?_⟩
      have := this.2
      rw [hx, hy] at this
      simp at this
  · intro m
    cases m
    · exact ⟨_, h10⟩
    · exact ⟨_, h11⟩
    · exact ⟨_, h9⟩
  · intro i oi ho e he
    exact h5 oi (by simpa using Array.mem_of_getElem? ho) e (by simpa using he)

section static
variable {P : Program} {N : Nat} {ops : Array Oper} {o : Nat → Nat} {M : Nat → Option MI} {n : Nat} {bf : Nat → Nat → Bool}

/-- What comes before stands before. -/
theorem DF.bf_lt (d : DF P N ops o M n bf) : ∀ q p, p < n → q < n → bf p q = true → p < q := by
  intro q
  induction q using Nat.strongRecOn with
  | _ q ih =>
    intro p hp hq hb
    obtain ⟨oi, e, h1, h2, h3, h4⟩ := d.cl p q hp hq hb
    obtain ⟨r, hr, her⟩ := d.edge q hq oi h1 e h2 h3
    rcases h4 with h4 | h4
    · have := d.inj p r hp (by omega) (by rw [her, h4])
      omega
    · have := ih r hr p hp (by omega) (h4 r (by omega) her)
      omega

/-- Done sets hold what they wait for. -/
def Shut (ops : Array Oper) (o : Nat → Nat) (n : Nat) (l : Nat → Bool) : Prop := ∀ q, q < n → l (o q) = true → ∀ oi, ops[o q]? = some oi → ∀ e ∈ oi.after, Region.binds .any e = true → l e.on = true

theorem DF.bf_in (d : DF P N ops o M n bf) {l : Nat → Bool} (hl : Shut ops o n l) : ∀ q p, p < n → q < n → bf p q = true → l (o q) = true → l (o p) = true := by
  intro q
  induction q using Nat.strongRecOn with
  | _ q ih =>
    intro p hp hq hb hlq
    obtain ⟨oi, e, h1, h2, h3, h4⟩ := d.cl p q hp hq hb
    obtain ⟨r, hr, her⟩ := d.edge q hq oi h1 e h2 h3
    have := hl q hq hlq oi h1 e h2 h3
    rcases h4 with h4 | h4
    · rw [← h4]; exact this
    · exact ih r hr p hp (by omega) (h4 r (by omega) her) (by rw [her]; exact this)

/-- An operation that is ready: all that comes before it is done. -/
theorem DF.bf_ready (d : DF P N ops o M n bf) {l : Nat → Bool} (hl : Shut ops o n l) {q : Nat} (hq : q < n) {oi : Oper} (ho : ops[o q]? = some oi) (hr : ∀ e ∈ oi.after, Region.binds .any e = true → l e.on = true) : ∀ p, p < n → bf p q = true → l (o p) = true := by
  intro p hp hb
  obtain ⟨oi', e, h1, h2, h3, h4⟩ := d.cl p q hp hq hb
  rw [ho] at h1; cases h1
  obtain ⟨r, hr', her⟩ := d.edge q hq oi ho e h2 h3
  have := hr e h2 h3
  rcases h4 with h4 | h4
  · rw [← h4]; exact this
  · exact d.bf_in hl r p hp (by omega) (h4 r (by omega) her) (by rw [her]; exact this)

end static
end Go.Proofs.Ytdfmdclfnhgjiaa.Can
