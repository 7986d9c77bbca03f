/- The short form of code, and what it means over the second heap: an account by conditions that hang on no tape. A call is taken by a fact about it.
   Conditions: none; definitions, and that the machine does what they say, operation by operation. -/
import Derived.Test.YtdfmdclfnhgjiaaCanF
set_option linter.unusedVariables false
set_option linter.unusedSimpArgs false
namespace Go.Proofs.Ytdfmdclfnhgjiaa.Can
open Go

/-- A call of function f with these arguments in this heap comes to this value and this heap. -/
def SimCall (P : Program) (f : FuncId) (args : List Value) (h : CH) (v : Value) (h' : CH) : Prop :=
  h.size ≤ h'.size ∧ ∀ (ι : Map) (w : World) (args' : List Value), HR ι h w → VL ι args args' → Calls P f args'.toArray w fun e w' => ∃ v', e = .returned v' ∧ Post ι h w v h' v' w'

def goFn (P : Program) (f : FuncId) : Prop := ∃ fn, P.funcs[f]? = some fn ∧ fn.name ≠ "runtime.NumGoroutine" ∧ fn.body.isSome = true

def effC (P : Program) : Sh → List Value → CH → Value → CH → Prop
  | .store n, [.pointer (some b), x], h, v, h' => v = undef ∧ x.cells.size = n ∧ x.cells.toList.all (·.oneCell') = true ∧ storeC h b x.cells.toList = some h'
  | .app n b, [s, x], h, v, h' => appC n b s x h = some (v, h')
  | .appZ n b z, [s, x], h, v, h' => appZC n b z s x h = some (v, h')
  | .cpy n, [s, x], h, v, h' => cpyC n s x h = some (v, h')
  | .call f, vs, h, v, h' => SimCall P f vs h v h'
  | .callv, .func (.func f) x y :: vs, h, v, h' => goFn P f ∧ SimCall P f (x.toList ++ vs ++ y.toList) h v h'
  | _, _, _, _, _ => False

inductive Kind where
  | pure | read | new | eff
  deriving DecidableEq

def kind : Sh → Kind
  | .load _ _ | .b2s | .capL _ | .slc _ _ _ _ => .read
  | .alloc _ _ | .box _ | .blds _ _ _ _ | .mks _ _ _ | .s2b | .mkMap => .new
  | .store _ | .app _ _ | .appZ _ _ _ | .cpy _ | .call _ | .callv => .eff
  | _ => .pure

/-- One operation's step. -/
def Step (P : Program) (sh : Sh) (vs : List Value) (h : CH) (v : Value) (h' : CH) : Prop :=
  match kind sh with
  | .pure => pureC sh vs = some v ∧ h' = h
  | .read => readC sh vs h = some v ∧ h' = h
  | .new => ∃ co f, newC sh vs = some (co, f) ∧ v = f h.size ∧ h' = h.push co
  | .eff => effC P sh vs h v h'

def oW (o : Option Value) (K : Value → Prop) : Prop :=
  match o with
  | some v => K v
  | none => False
def pW (o : Option (Value × CH)) (K : Value → CH → Prop) : Prop :=
  match o with
  | some (v, h) => K v h
  | none => False
def nW (o : Option (CO × (Nat → Value))) (K : CO → (Nat → Value) → Prop) : Prop :=
  match o with
  | some (co, f) => K co f
  | none => False
def hW (o : Option CH) (K : CH → Prop) : Prop :=
  match o with
  | some h => K h
  | none => False
theorem oW_iff {o : Option Value} {K : Value → Prop} : oW o K ↔ ∃ v, o = some v ∧ K v := by cases o <;> simp [oW]
theorem hW_iff {o : Option CH} {K : CH → Prop} : hW o K ↔ ∃ h, o = some h ∧ K h := by cases o <;> simp [hW]
theorem pW_iff {o : Option (Value × CH)} {K : Value → CH → Prop} : pW o K ↔ ∃ v h, o = some (v, h) ∧ K v h := by
  cases o with
  | none => simp [pW]
  | some p => obtain ⟨v, h⟩ := p; exact ⟨fun k => ⟨v, h, rfl, k⟩, fun ⟨_, _, e, k⟩ => by cases e; exact k⟩
theorem nW_iff {o : Option (CO × (Nat → Value))} {K : CO → (Nat → Value) → Prop} : nW o K ↔ ∃ co f, o = some (co, f) ∧ K co f := by
  cases o with
  | none => simp [nW]
  | some p => obtain ⟨v, h⟩ := p; exact ⟨fun k => ⟨v, h, rfl, k⟩, fun ⟨_, _, e, k⟩ => by cases e; exact k⟩

def callW (P : Program) (f : FuncId) (vs : List Value) (h : CH) (K : Value → CH → Prop) : Prop := ∃ v h', SimCall P f vs h v h' ∧ K v h'

def stepW (P : Program) (sh : Sh) (vs : List Value) (h : CH) (K : Value → CH → Prop) : Prop :=
  match sh with
  | .load agg n => oW (readC (.load agg n) vs h) fun v => K v h
  | .b2s => oW (readC .b2s vs h) fun v => K v h
  | .capL k => oW (readC (.capL k) vs h) fun v => K v h
  | .slc k lo hi mx => oW (readC (.slc k lo hi mx) vs h) fun v => K v h
  | .alloc z k => nW (newC (.alloc z k) vs) fun co f => K (f h.size) (h.push co)
  | .box k => nW (newC (.box k) vs) fun co f => K (f h.size) (h.push co)
  | .blds k len z pl => nW (newC (.blds k len z pl) vs) fun co f => K (f h.size) (h.push co)
  | .mks k b z => nW (newC (.mks k b z) vs) fun co f => K (f h.size) (h.push co)
  | .s2b => nW (newC .s2b vs) fun co f => K (f h.size) (h.push co)
  | .store n => match vs with
    | [.pointer (some b), x] => x.cells.size = n ∧ x.cells.toList.all (·.oneCell') = true ∧ hW (storeC h b x.cells.toList) fun h' => K undef h'
    | _ => False
  | .app n b => match vs with
    | [s, x] => pW (appC n b s x h) K
    | _ => False
  | .appZ n b z => match vs with
    | [s, x] => pW (appZC n b z s x h) K
    | _ => False
  | .cpy n => match vs with
    | [s, x] => pW (cpyC n s x h) K
    | _ => False
  | .call f => callW P f vs h K
  | .callv => match vs with
    | .func (.func f) x y :: r => goFn P f ∧ callW P f (x.toList ++ r ++ y.toList) h K
    | _ => False
  | .mkMap | .mlook _ _ | .mlen | .clr _ _ | .mupd | .rng | .nxt => False
  | sh => oW (pureC sh vs) fun v => K v h

theorem stepW_step {P : Program} {sh : Sh} {vs : List Value} {h : CH} {K : Value → CH → Prop} (g : stepW P sh vs h K) : ∃ v h', Step P sh vs h v h' ∧ K v h' := by
  cases sh <;> simp only [stepW] at g <;> first
    | exact g.elim
    | (obtain ⟨v, e, k⟩ := oW_iff.1 g; exact ⟨v, h, ⟨e, rfl⟩, k⟩)
    | (obtain ⟨co, f, e, k⟩ := nW_iff.1 g; exact ⟨_, _, ⟨co, f, e, rfl, rfl⟩, k⟩)
    | skip
  · split at g
    · obtain ⟨g1, g2, g3⟩ := g
      obtain ⟨h', e, k⟩ := hW_iff.1 g3
      exact ⟨undef, h', ⟨rfl, g1, g2, e⟩, k⟩
    · exact g.elim
  · split at g
    · obtain ⟨v, h', e, k⟩ := pW_iff.1 g
      exact ⟨v, h', e, k⟩
    · exact g.elim
  · split at g
    · obtain ⟨v, h', e, k⟩ := pW_iff.1 g
      exact ⟨v, h', e, k⟩
    · exact g.elim
  · obtain ⟨v, h', e, k⟩ := g
    exact ⟨v, h', e, k⟩
  · split at g
    · obtain ⟨g1, v, h', e, k⟩ := g
      exact ⟨v, h', ⟨g1, e⟩, k⟩
    · exact g.elim
  · split at g
    · obtain ⟨v, h', e, k⟩ := pW_iff.1 g
      exact ⟨v, h', e, k⟩
    · exact g.elim

theorem stepW_mono {P : Program} {sh : Sh} {vs : List Value} {h : CH} {K K' : Value → CH → Prop} (hk : ∀ v h', K v h' → K' v h') (g : stepW P sh vs h K) : stepW P sh vs h K' := by
  cases sh <;> simp only [stepW] at g ⊢ <;> first
    | exact g
    | (obtain ⟨v, e, k⟩ := oW_iff.1 g; exact oW_iff.2 ⟨v, e, hk _ _ k⟩)
    | (obtain ⟨co, f, e, k⟩ := nW_iff.1 g; exact nW_iff.2 ⟨co, f, e, hk _ _ k⟩)
    | skip
  · split at g
    · obtain ⟨g1, g2, g3⟩ := g
      obtain ⟨h', e, k⟩ := hW_iff.1 g3
      exact ⟨g1, g2, hW_iff.2 ⟨h', e, hk _ _ k⟩⟩
    · exact g.elim
  · split at g
    · obtain ⟨v, h', e, k⟩ := pW_iff.1 g
      exact pW_iff.2 ⟨v, h', e, hk _ _ k⟩
    · exact g.elim
  · split at g
    · obtain ⟨v, h', e, k⟩ := pW_iff.1 g
      exact pW_iff.2 ⟨v, h', e, hk _ _ k⟩
    · exact g.elim
  · obtain ⟨v, h', e, k⟩ := g
    exact ⟨v, h', e, hk _ _ k⟩
  · split at g
    · obtain ⟨g1, v, h', e, k⟩ := g
      exact ⟨g1, v, h', e, hk _ _ k⟩
    · exact g.elim
  · split at g
    · obtain ⟨v, h', e, k⟩ := pW_iff.1 g
      exact pW_iff.2 ⟨v, h', e, hk _ _ k⟩
    · exact g.elim

/-- What a step leaves: the machine's value under the slot, its heap told of by the second one. -/
def Next (ι : Map) (h : CH) (a : Act) (w : World) (dst : Option Tmp) (v : Value) (h' : CH) : Act → World → Prop :=
  fun a' w' => ∃ v', a' = a.put dst v' ∧ Post ι h w v h' v' w'

def WF (P : Program) : Prop := ∀ t n, szOf P t = some n → (P.underlying t).isSome = true
theorem wf (P : Program) : WF P := fun t n h => by
  unfold szOf at h
  split at h
  · assumption
  · cases h

section
variable {P : Program} {ι : Map} {N : Nat} {ρ : Nat → Value} {a : Act} {w : World} {h h' : CH} {v : Value} {sh : Sh} {o : Oper}

theorem callFunc_run {f : FuncId} (hg : goFn P f) (args : Array Value) : (callFunc f args).run P w = .ok (.enter f args) w := by
  obtain ⟨fn, h1, h2, h3⟩ := hg
  obtain ⟨c, h4⟩ := Option.isSome_iff_exists.1 h3
  simp [callFunc, h1, h2, h4]

/-- What one operation's run comes to: a value, nothing, or a call that comes to one. -/
def RunsTo (P : Program) (a : Act) (w : World) (o : Oper) (R : Value → World → Prop) : Prop :=
  (∃ v' w', (execOp a.eval o).run P w = .ok (.value v') w' ∧ R v' w') ∨ (∃ w', (execOp a.eval o).run P w = .ok .skip w' ∧ R undef w') ∨
    ∃ f args', (execOp a.eval o).run P w = .ok (.enter f args') w ∧ Calls P f args' w fun e w' => ∃ v', e = .returned v' ∧ R v' w'

theorem RunsTo.mono {R R' : Value → World → Prop} (hk : ∀ v w', R v w' → R' v w') (g : RunsTo P a w o R) : RunsTo P a w o R' := by
  rcases g with ⟨v', w', h1, h2⟩ | ⟨w', h1, h2⟩ | ⟨f, args', h1, h2⟩
  · exact .inl ⟨v', w', h1, hk _ _ h2⟩
  · exact .inr (.inl ⟨w', h1, hk _ _ h2⟩)
  · exact .inr (.inr ⟨f, args', h1, h2.mono fun e w' ⟨v', e1, r⟩ => ⟨v', e1, hk _ _ r⟩⟩)

theorem RunsTo.wp {R : Value → World → Prop} {K : Act → World → Prop} {Q : Exit → Act → World → Prop} (g : RunsTo P a w o R) (hk : ∀ v' w', R v' w' → K (a.put o.dst v') w') : o.wp P a w K Q := by
  unfold Oper.wp
  rcases g with ⟨v', w', h1, h2⟩ | ⟨w', h1, h2⟩ | ⟨f, args', h1, h2⟩
  · rw [h1, Oper.upon_value]; exact hk _ _ h2
  · rw [h1, Oper.upon_skip]; exact hk _ _ h2
  · rw [h1, Oper.upon_enter]
    refine h2.mono ?_
    rintro e w' ⟨v', rfl, hR⟩
    exact hk v' w' hR

theorem eff_sound (hA : AR ι N ρ a) (hR : HR ι h w) (hc : compSh P o.op = some sh) (hok : (opdsOf o.op).all okOpd = true) (hs : effC P sh ((opdsOf o.op).map (ev ρ)) h v h') : RunsTo P a w o (Post ι h w v h') := by
  obtain ⟨dst, op, type, pos, after, guard⟩ := o
  simp only at hc hok hs
  have value : ∀ v' w', (execOp a.eval ⟨dst, op, type, pos, after, guard⟩).run P w = .ok (.value v') w' → Post ι h w v h' v' w' → RunsTo P a w ⟨dst, op, type, pos, after, guard⟩ (Post ι h w v h') :=
    fun v' w' hr hp => .inl ⟨v', w', hr, hp⟩
  cases op
  case store t x y =>
    have hc0 := hc
    simp only [compSh, Option.map_eq_some_iff] at hc
    obtain ⟨n, hn, rfl⟩ := hc
    have hops : (opdsOf (.store t x y)).map (ev ρ) = [ev ρ x, ev ρ y] := rfl
    rw [hops] at hs
    have hs2 : ∃ b, ev ρ x = .pointer (some b) ∧ v = undef ∧ (ev ρ y).cells.size = n ∧ (ev ρ y).cells.toList.all (·.oneCell') = true ∧ storeC h b (ev ρ y).cells.toList = some h' := by
      generalize ev ρ x = u at hs
      cases u <;> first | exact hs.elim | skip
      rename_i b
      cases b with
      | none => exact hs.elim
      | some b => exact ⟨b, rfl, hs⟩
    obtain ⟨b, q1, rfl, q2, q3, q4⟩ := hs2
    obtain ⟨w', p1, p2⟩ := store_sound (type := type) (pos := pos) (after := after) (guard := guard) (dst := dst) hA hR hc0 hok q1 q2 q3 q4
    exact .inr (.inl ⟨w', p1, p2⟩)
  case call c =>
    have hc0 := hc
    obtain ⟨callee, args, tys⟩ := c
    cases callee with
    | invoke r m => simp [compSh] at hc
    | value f =>
      cases f with
      | const _ => simp [compSh] at hc
      | global _ => simp [compSh] at hc
      | func f =>
        simp only [compSh] at hc
        split at hc
        · rename_i fn hfn
          split at hc
          · rename_i hk
            cases hc
            have hops : opdsOf (.call ⟨.value (.func f), args, tys⟩) = args.toList := rfl
            rw [hops] at hs hok
            have r := hA.evs hok
            refine .inr (.inr ⟨f, _, ?_, hs.2 ι w _ hR r⟩)
            have : args.map a.eval = (args.toList.map a.eval).toArray := by apply Array.ext'; simp
            simp only [execOp, resolve, Act.eval, Deferred.ofValue, Sem.run_bind, Sem.run_pure, Result.andThen_ok, invoke, Array.append_empty, Array.empty_append]
            rw [this]
            exact callFunc_run ⟨fn, hfn, hk⟩ _
          · cases hc
        · cases hc
      | tmp t =>
        simp only [compSh, Option.some.injEq] at hc
        subst hc
        have hops : opdsOf (.call ⟨.value (.tmp t), args, tys⟩) = .tmp t :: args.toList := rfl
        rw [hops] at hs hok
        have r := hA.evs hok
        simp only [List.map_cons] at hs r
        have rf := r.head
        have ra := r.tail
        revert hs rf
        generalize ev ρ (.tmp t) = u
        intro hs rf
        cases u <;> first | exact hs.elim | skip
        rename_i fn x y
        cases fn <;> first | exact hs.elim | skip
        rename_i f
        obtain ⟨hg, hs⟩ := hs
        have hfv : ∃ x' y', a.eval (.tmp t) = .func (.func f) x' y' ∧ VA ι x x' ∧ VA ι y y' := by
          generalize a.eval (.tmp t) = u' at rf
          cases rf with
          | base _ hb => simp [Can.base] at hb
          | func _ _ x' _ y' h1 h2 h3 h4 => exact ⟨x', y', rfl, ⟨h1, h3⟩, ⟨h2, h4⟩⟩
        obtain ⟨x', y', e1, e2, e3⟩ := hfv
        refine .inr (.inr ⟨f, _, ?_, hs.2 ι w _ hR ((e2.toList.append ra).append e3.toList)⟩)
        have : (x'.toList ++ args.toList.map a.eval ++ y'.toList).toArray = x' ++ args.map a.eval ++ y' := by apply Array.ext'; simp
        simp only [execOp, resolve, e1, Deferred.ofValue, Sem.run_bind, Sem.run_pure, Result.andThen_ok, invoke]
        rw [this]
        exact callFunc_run hg _
    | builtin bi =>
      have two : ∀ {sh : Sh}, (∃ s x, ((opdsOf (.call ⟨.builtin bi, args, tys⟩)).map (ev ρ)) = [s, x]) ∨ True := fun {_} => .inr trivial
      generalize hvs : (opdsOf (.call ⟨.builtin bi, args, tys⟩)).map (ev ρ) = vs at hs
      have hsh : (∃ n b s x, sh = .app n b ∧ vs = [s, x] ∧ appC n b s x h = some (v, h')) ∨ (∃ n s x, sh = .cpy n ∧ vs = [s, x] ∧ cpyC n s x h = some (v, h')) ∨ (∃ n b z s x, sh = .appZ n b z ∧ vs = [s, x] ∧ appZC n b z s x h = some (v, h')) := by
        cases bi <;> simp only [compSh] at hc <;> (repeat' split at hc) <;> first | (cases hc; done) | (cases hc; exact hs.elim) | skip
        all_goals first
          | (simp only [Option.map_eq_some_iff] at hc; obtain ⟨_, _, rfl⟩ := hc; exact hs.elim)
          | (cases hc
             rcases vs with _ | ⟨s, _ | ⟨x, _ | ⟨z, r⟩⟩⟩
             · exact hs.elim
             · exact hs.elim
             · first | exact .inl ⟨_, _, s, x, rfl, rfl, hs⟩ | exact .inr (.inl ⟨_, s, x, rfl, rfl, hs⟩) | exact .inr (.inr ⟨_, _, _, s, x, rfl, rfl, hs⟩)
             · exact hs.elim)
      rcases hsh with ⟨n, b, s, x, rfl, rfl, hs2⟩ | ⟨n, s, x, rfl, rfl, hs2⟩ | ⟨n, b, z, s, x, rfl, rfl, hs2⟩
      · obtain ⟨v', w', p1, p2⟩ := app_sound (type := type) (pos := pos) (after := after) (guard := guard) (dst := dst) hA hR hc0 hok hvs hs2
        exact value v' w' p1 p2
      · obtain ⟨v', w', p1, p2⟩ := cpy_sound (type := type) (pos := pos) (after := after) (guard := guard) (dst := dst) hA hR hc0 hok hvs hs2
        exact value v' w' p1 p2
      · obtain ⟨v', w', p1, p2⟩ := appZ_sound (type := type) (pos := pos) (after := after) (guard := guard) (dst := dst) hA hR hc0 hok hvs hs2
        exact value v' w' p1 p2
  case binOp op t x y yt =>
    cases op <;> simp only [compSh, compEq] at hc <;> (repeat' split at hc) <;> first | (cases hc; done) | (cases hc; exact hs.elim)
  all_goals
    simp only [compSh] at hc
    (repeat' split at hc) <;> first | (cases hc; done) | (cases hc; exact hs.elim) | skip
  all_goals
    simp only [Option.map_eq_some_iff] at hc
    obtain ⟨_, _, rfl⟩ := hc
    exact hs.elim

/-- What needs and what reads the heap: the world stays. -/
theorem still_sound (hwf : WF P) (hA : AR ι N ρ a) (hR : HR ι h w) (hc : compSh P o.op = some sh) (hok : (opdsOf o.op).all okOpd = true) (hk : kind sh = .pure ∨ kind sh = .read)
    (hs : Step P sh ((opdsOf o.op).map (ev ρ)) h v h') : RunsTo P a w o fun v' w' => w' = w ∧ VR ι v v' := by
  unfold Step at hs
  obtain ⟨dst, op, type, pos, after, guard⟩ := o
  rcases hk with hk | hk
  · rw [hk] at hs
    obtain ⟨v', r1, r2⟩ := pure_sound (w := w) (dst := dst) (type := type) (pos := pos) (after := after) (guard := guard) hA hwf hc hok hs.1
    exact .inl ⟨v', w, r1, rfl, r2⟩
  · rw [hk] at hs
    obtain ⟨v', r1, r2⟩ := read_sound (dst := dst) (type := type) (pos := pos) (after := after) (guard := guard) hA hR hwf hc hok hs.1
    exact .inl ⟨v', w, r1, rfl, r2⟩

theorem step_run (hwf : WF P) (hA : AR ι N ρ a) (hR : HR ι h w) (hc : compSh P o.op = some sh) (hok : (opdsOf o.op).all okOpd = true) (hs : Step P sh ((opdsOf o.op).map (ev ρ)) h v h') : RunsTo P a w o (Post ι h w v h') := by
  have hs0 := hs
  unfold Step at hs
  cases hk : kind sh
  · rw [hk] at hs
    obtain ⟨_, rfl⟩ := hs
    exact (still_sound hwf hA hR hc hok (.inl hk) hs0).mono fun v' w' ⟨e, r⟩ => by subst e; exact ⟨ι, r, hR, Fr.refl _ _ _⟩
  · rw [hk] at hs
    obtain ⟨_, rfl⟩ := hs
    exact (still_sound hwf hA hR hc hok (.inr hk) hs0).mono fun v' w' ⟨e, r⟩ => by subst e; exact ⟨ι, r, hR, Fr.refl _ _ _⟩
  · rw [hk] at hs
    obtain ⟨co, f, hs, rfl, rfl⟩ := hs
    obtain ⟨dst, op, type, pos, after, guard⟩ := o
    obtain ⟨i, v', w', O, r1, r2, r3, r4, r5, r6, r7⟩ := new_sound (w := w) (dst := dst) (type := type) (pos := pos) (after := after) (guard := guard) hA hc hok hs
    obtain ⟨r8, r9⟩ := r7 h.size hR.none
    exact .inl ⟨v', w', r1, ι.put h.size i, r8, hR.push co O i r3 (fun w2 h2 => r9 w2 (by rw [h2]; simp)) r2, Fr.push hR co O i r3 r2 r4 r5 r6⟩
  · rw [hk] at hs
    exact eff_sound hA hR hc hok hs

theorem step_sound (hwf : WF P) (hA : AR ι N ρ a) (hR : HR ι h w) (hc : compSh P o.op = some sh) (hok : (opdsOf o.op).all okOpd = true) (hs : Step P sh ((opdsOf o.op).map (ev ρ)) h v h') {K : Act → World → Prop} {Q : Exit → Act → World → Prop}
    (hK : ∀ a' w', Next ι h a w o.dst v h' a' w' → K a' w') : o.wp P a w K Q :=
  (step_run hwf hA hR hc hok hs).wp fun v' w' hp => hK _ _ ⟨v', rfl, hp⟩

end
end Go.Proofs.Ytdfmdclfnhgjiaa.Can
