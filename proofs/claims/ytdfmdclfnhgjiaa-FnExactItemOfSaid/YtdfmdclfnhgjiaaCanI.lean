/- Functions in the short form: a call's facts out of its code's.
   Conditions: the type table is well formed (WF). -/
import Derived.Test.YtdfmdclfnhgjiaaCanH
set_option linter.unusedVariables false
set_option linter.unusedSimpArgs false
namespace Go.Proofs.Ytdfmdclfnhgjiaa.Can
open Go

inductive MR where
  | slot (t : Nat)
  | cell (t : Nat) (agg : Bool) (n : Nat)

structure MF where
  N : Nat
  code : MC
  res : List MR

def resOf (P : Program) : List ResultVar → Option (List MR)
  | [] => some []
  | .tmp t :: r => (resOf P r).map (.slot t :: ·)
  | .cell t ty :: r => match szOf P ty, resOf P r with
    | some n, some l => if isAggT P ty = true ∨ n = 1 then some (.cell t (isAggT P ty) n :: l) else none
    | _, _ => none

def compF (P : Program) (fn : Func) : Option MF :=
  match fn.body with
  | some c => match compC P fn.ntmps c, resOf P fn.results.toList with
    | some m, some l => some ⟨fn.ntmps, m, l⟩
    | _, _ => none
  | none => none

def resV (ρ : Nat → Value) (h : CH) : List MR → Option (List Value)
  | [] => some []
  | .slot t :: r => match resV ρ h r with
    | some l => some (ρ t :: l)
    | none => none
  | .cell t agg n :: r => match readC (.load agg n) [ρ t] h, resV ρ h r with
    | some v, some l => some (v :: l)
    | _, _ => none

def resC (ρ : Nat → Value) (h : CH) (l : List MR) : Option Value :=
  match resV ρ h l with
  | some [v] => some v
  | some vs => some (.tuple vs.toArray)
  | none => none

def entry (args : List Value) : Nat → Value := fun t => args.getD t undef

def retK (mf : MF) (R : Value → CH → Prop) : KT := fun e ρ h => match e with
  | .exit _ => False
  | _ => oW (resC ρ h mf.res) fun v => R v h

section
variable {P : Program} {ι : Map} {N : Nat} {ρ : Nat → Value} {a : Act} {w : World} {h : CH}

theorem entry_AR {args args' : List Value} (hv : VL ι args args') (hl : args.length ≤ N) : AR ι N (entry args) { tmps := args'.toArray ++ Array.replicate (N - args'.toArray.size) undef, defers := [] } := by
  have hl2 := hv.1
  refine ⟨by simp; omega, rfl, fun t ht => ?_, fun t ht => ?_⟩
  · by_cases h1 : t < args.length
    · have h2 : t < args'.length := hl2 ▸ h1
      have e1 : entry args t = args[t] := by simp [entry, h1]
      have e2 : (args'.toArray ++ Array.replicate (N - args'.toArray.size) undef).getD t undef = args'[t] := by
        simp [Array.getD, h2, Array.getElem_append_left]
        intro h3; omega
      rw [e1]
      show VR ι args[t] ((args'.toArray ++ Array.replicate (N - args'.toArray.size) undef).getD t undef)
      rw [e2]
      exact hv.2 t _ _ (List.getElem?_eq_getElem h1) (List.getElem?_eq_getElem h2)
    · have e1 : entry args t = undef := by simp [entry, List.getElem?_eq_none (Nat.le_of_not_lt h1)]
      have e2 : (args'.toArray ++ Array.replicate (N - args'.toArray.size) undef).getD t undef = undef := by
        have hts : t < (args'.toArray ++ Array.replicate (N - args'.toArray.size) undef).size := by simp; omega
        simp only [Array.getD, hts, dif_pos]
        show (args'.toArray ++ Array.replicate (N - args'.toArray.size) undef)[t] = undef
        rw [Array.getElem_append_right (by simp; omega)]
        simp
      rw [e1]
      show VR ι undef ((args'.toArray ++ Array.replicate (N - args'.toArray.size) undef).getD t undef)
      rw [e2]; exact .undef ι
  · simp [entry, List.getElem?_eq_none (show args.length ≤ t by omega)]

theorem loadVar_run (hwf : WF P) (hR : HR ι h w) {ty : TypeId} {n : Nat} (hn : szOf P ty = some n) {u u' v : Value} (hv : VR ι u u') (hr : readC (.load (isAggT P ty) n) [u] h = some v) :
    ∃ v', (do loadVar ty (← asAddr u') : Sem Value).run P w = .ok v' w ∧ VR ι v v' := by
  cases u <;> first | (simp [readC] at hr; done) | skip
  rename_i b
  cases b with
  | none => simp [readC] at hr
  | some b =>
    simp only [readC] at hr
    split at hr
    · rename_i cs hcs
      obtain ⟨c, k, opn, rw, hcb, hle, rfl⟩ := cellsAt_some hcs
      obtain ⟨i, e1, _, e2⟩ := hv.ptr_inv
      obtain ⟨cs', q1, q2, q3⟩ := cells_at hR e1 hcb hle
      have hagg := under_of_sz (w := w) (P := P) rfl hn (hwf _ _ hn)
      cases hb : isAggT P ty
      · rw [hb] at hr hagg
        simp only [Bool.false_eq_true, if_false] at hr
        obtain ⟨v', g1, g2⟩ := q1.get hr
        refine ⟨v', ?_, g2⟩
        have := q3 0 v' g1
        simp only [e2, asAddr, Sem.run_bind, Sem.run_pure, Result.andThen_ok, loadVar, hagg, Bool.false_eq_true, if_false, run_load, this, Nat.add_zero] at this ⊢
      · rw [hb] at hr hagg
        simp only [if_true, Option.some.injEq] at hr
        subst hr
        refine ⟨.agg cs'.toArray, ?_, q1.toArray.agg⟩
        simp only [e2, asAddr, Sem.run_bind, Sem.run_pure, Result.andThen_ok, loadVar, hagg, if_true, run_sizeOf w hn, run_loadCells_at q2 q3]
    · cases hr

theorem results_run (hwf : WF P) (hA : AR ι N ρ a) (hR : HR ι h w) {fn : Func} {l : List MR} (hl : resOf P fn.results.toList = some l) {v : Value} (hv : resC ρ h l = some v) :
    ∃ v', (results fn a.tmps).run P w = .ok v' w ∧ VR ι v v' := by
  have key : ∀ (rs : List ResultVar) (l : List MR) (vs : List Value), resOf P rs = some l → resV ρ h l = some vs →
      ∃ vs', (rs.mapM (fun r => (match r with | .tmp t => pure (a.tmps.getD t undef) | .cell b t => do loadVar t (← asAddr (a.tmps.getD b undef)) : Sem Value))).run P w = .ok vs' w ∧ VL ι vs vs' := by
    intro rs
    induction rs with
    | nil =>
      intro l vs h1 h2
      simp only [resOf, Option.some.injEq] at h1; subst h1
      simp only [resV, Option.some.injEq] at h2; subst h2
      exact ⟨[], by simp, .nil ι⟩
    | cons r rs ih =>
      intro l vs h1 h2
      have slot : ∀ t, VR ι (ρ t) (a.tmps.getD t undef) := fun t => hA.ev (x := .tmp t) rfl
      cases r with
      | tmp t =>
        simp only [resOf, Option.map_eq_some_iff] at h1
        obtain ⟨l', e1, rfl⟩ := h1
        simp only [resV] at h2
        split at h2
        · rename_i vs1 e2
          cases h2
          obtain ⟨vs', p1, p2⟩ := ih l' vs1 e1 e2
          exact ⟨_, by simp only [List.mapM_cons, Sem.run_bind, Sem.run_pure, Result.andThen_ok, p1], .cons (slot t) p2⟩
        · cases h2
      | cell t ty =>
        simp only [resOf] at h1
        split at h1
        · rename_i n l' hn e1
          split at h1
          · cases h1
            simp only [resV] at h2
            split at h2
            · rename_i v1 vs1 hr e2
              cases h2
              obtain ⟨vs', p1, p2⟩ := ih l' vs1 e1 e2
              obtain ⟨v', q1, q2⟩ := loadVar_run hwf hR hn (slot t) hr
              refine ⟨v' :: vs', ?_, .cons q2 p2⟩
              rw [List.mapM_cons, Sem.run_bind, q1]
              simp only [Result.andThen_ok, Sem.run_bind, p1, Sem.run_pure]
            · cases h2
          · cases h1
        · cases h1
  unfold resC at hv
  split at hv
  · rename_i v1 e
    cases hv
    obtain ⟨vs', p1, p2⟩ := key _ _ _ hl e
    obtain ⟨v', y, e1, e2, e3⟩ := p2.cons_inv
    rw [e3.nil_inv] at e1
    subst e1
    refine ⟨v', ?_, e2⟩
    have hres : (results fn a.tmps).run P w = (((List.toArray <$> fn.results.toList.mapM (fun r => (match r with | .tmp t => pure (a.tmps.getD t undef) | .cell b t => do loadVar t (← asAddr (a.tmps.getD b undef)) : Sem Value))) : Sem (Array Value)).run P w).andThen fun vs w => .ok (if h : vs.size = 1 then vs[0] else .tuple vs) w := by
      unfold results
      rw [Array.mapM_eq_mapM_toList, Sem.run_bind]
      rfl
    rw [hres, Sem.run_map, p1]
    rfl
  · rename_i vs hne e
    cases hv
    obtain ⟨vs', p1, p2⟩ := key _ _ _ hl e
    refine ⟨.tuple vs'.toArray, ?_, ?_⟩
    · have hres : (results fn a.tmps).run P w = (((List.toArray <$> fn.results.toList.mapM (fun r => (match r with | .tmp t => pure (a.tmps.getD t undef) | .cell b t => do loadVar t (← asAddr (a.tmps.getD b undef)) : Sem Value))) : Sem (Array Value)).run P w).andThen fun vs w => .ok (if h : vs.size = 1 then vs[0] else .tuple vs) w := by
        unfold results
        rw [Array.mapM_eq_mapM_toList, Sem.run_bind]
        rfl
      rw [hres, Sem.run_map, p1]
      simp only [Result.andThen_ok]
      have hlen : ¬ vs'.toArray.size = 1 := by
        intro h1
        have h2 : vs.length = 1 := by rw [p2.1]; simpa using h1
        obtain ⟨x, hx⟩ := List.length_eq_one_iff.1 h2
        exact hne x hx
      rw [dif_neg hlen]
    · have := p2.toArray
      exact .tuple _ _ this.1 this.2
  · cases hv


/-- A call's fact out of its code's. -/
theorem callW_of {f : FuncId} {fn : Func} {mf : MF} {args : List Value} {R : Value → CH → Prop} (hwf : WF P) (hf : P.funcs[f]? = some fn) (hc : compF P fn = some mf) (hl : args.length ≤ mf.N) (hw : wpC P mf.code (retK mf R) (entry args) h) :
    callW P f args h R := by
  unfold compF at hc
  split at hc
  · rename_i c hb
    split at hc
    · rename_i m l hm hres
      cases hc
      simp only at hl hw
      obtain ⟨e, ρ', h', k, s1, p⟩ := wpC_pick hw
      have hv : ∃ v, resC ρ' h' l = some v ∧ R v h' ∧ (e = .normal ∨ e = .ret) := by
        cases e with
        | normal => obtain ⟨v, q1, q2⟩ := oW_iff.1 (show oW (resC ρ' h' l) (fun v => R v h') from k); exact ⟨v, q1, q2, .inl rfl⟩
        | ret => obtain ⟨v, q1, q2⟩ := oW_iff.1 (show oW (resC ρ' h' l) (fun v => R v h') from k); exact ⟨v, q1, q2, .inr rfl⟩
        | exit _ => exact k.elim
      obtain ⟨v, hv1, hv2, hv3⟩ := hv
      refine ⟨v, h', ⟨s1, ?_⟩, hv2⟩
      intro ι w args' hR hargs
      refine calls_of_wp hf hb ?_
      refine wp_mono (code_sound hwf c m hm (entry_AR hargs hl) hR p) ?_
      rintro x a' w' ⟨xx, κ, ρ2, h2, rfl, ⟨rfl, rfl, rfl⟩, r1, r2, r3⟩
      obtain ⟨v', q1, q2⟩ := results_run hwf r1 r2 hres hv1
      rcases hv3 with rfl | rfl
      · exact ⟨r1.defers, v', q1, v', rfl, κ, q2, r2, r3⟩
      · exact ⟨r1.defers, v', q1, v', rfl, κ, q2, r2, r3⟩
    · cases hc
  · cases hc

end
end Go.Proofs.Ytdfmdclfnhgjiaa.Can
