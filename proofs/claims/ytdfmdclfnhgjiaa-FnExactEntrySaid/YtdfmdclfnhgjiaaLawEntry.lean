/- FnExactEntry: the program's Entry returns what the reference's returns, for all arguments.
   Conditions: none. -/
import Derived.Test.YtdfmdclfnhgjiaaRows
import Derived.Test.YtdfmdclfnhgjiaaCanZ
import Derived.Test.YtdfmdclfnhgjiaaObM
import Derived.WalkKit
import Derived.ProofKit
import Derived.OpenShut
import Derived.Below
import Derived.SizedLaws
set_option linter.unusedVariables false
namespace Go.Proofs.Ytdfmdclfnhgjiaa.Can
open Go

/-- A tree of the type Obj. -/
theorem dt_text {d : D} {t : TypeId} {P : Program} (hu : P.underlying t = some .string) (h : DT P d t) : ∃ s, d = encT s ∧ okS s := by
  cases d with
  | val x =>
    simp only [DT, hu] at h
    cases x <;> simp at h
    exact ⟨_, rfl, h⟩
  | str ds => simp [DT, hu] at h
  | arr k ds => simp [DT, hu] at h
theorem dt_int {d : D} {t : TypeId} {P : Program} {k : IntKind} (hu : P.underlying t = some (.int k)) (h : DT P d t) : ∃ n, d = .val (.int k n) ∧ (Lit.int k n).wf = true := by
  cases d with
  | val x =>
    simp only [DT, hu] at h
    cases x <;> simp at h
    obtain ⟨rfl, h⟩ := h
    exact ⟨_, rfl, h⟩
  | str ds => simp [DT, hu] at h
  | arr k ds => simp [DT, hu] at h
theorem dt_slice {d : D} {t e : TypeId} {P : Program} (hu : P.underlying t = some (.slice e)) (h : DT P d t) : ∃ ds, d = .arr (P.cellsOf e) ds ∧ ds.length ≤ maxLen ∧ DTa P ds e := by
  cases d with
  | val x =>
    simp only [DT, hu] at h
  | str ds => simp [DT, hu] at h
  | arr k ds =>
    simp only [DT, hu] at h
    obtain ⟨e', he, rfl, h1, h2⟩ := h
    cases he
    exact ⟨ds, rfl, h1, h2⟩
theorem dt_texts {P : Program} {e : TypeId} (hu : P.underlying e = some .string) : ∀ {ds : List D}, DTa P ds e → ∃ ss : List ByteArray, ds = ss.map encT ∧ ∀ s ∈ ss, okS s
  | [], _ => ⟨[], rfl, by simp⟩
  | d :: ds, h => by
    simp only [DTa] at h
    obtain ⟨s, rfl, h1⟩ := dt_text hu h.1
    obtain ⟨ss, rfl, h2⟩ := dt_texts hu h.2
    exact ⟨s :: ss, rfl, by simpa using ⟨h1, h2⟩⟩

set_option maxRecDepth 100000
mutual
theorem dt_obj : ∀ {d : D}, DT Try.prog d 25 → ∃ o, d = encO o ∧ okO o
  | .val x, h => by simp only [DT, Try.underlying25] at h
  | .arr k ds, h => by simp [DT, Try.underlying25] at h
  | .str ds, h => by
    simp only [DT, Try.underlying25, Option.some.injEq, TypeDesc.struct.injEq] at h
    obtain ⟨fs, rfl, h⟩ := h
    rcases ds with _ | ⟨a, _ | ⟨b, _ | ⟨c, _ | ⟨e, _ | ⟨f, _ | ⟨g, ds⟩⟩⟩⟩⟩⟩ <;> simp [DTs] at h
    obtain ⟨h1, h2, h3, h4, h5⟩ := h
    obtain ⟨x, rfl, _⟩ := dt_int Try.underlying3 h1
    obtain ⟨y, rfl, _⟩ := dt_int Try.underlying3 h2
    obtain ⟨s, rfl, hs⟩ := dt_text Try.underlying9 h3
    obtain ⟨es, rfl, q1, q2⟩ := dt_slice Try.underlying22 h4
    obtain ⟨ss, rfl, q3⟩ := dt_texts Try.underlying9 q2
    have hc : Try.prog.cellsOf 25 = 5 := by kernel_rfl
    cases f with
    | val x => simp [DT, Try.underlying23] at h5
    | str ds => simp [DT, Try.underlying23] at h5
    | arr k ds =>
      simp only [DT, Try.underlying23] at h5
      obtain ⟨e', he, rfl, r1, r2⟩ := h5
      cases he
      obtain ⟨os, rfl, r3⟩ := dt_objs r2
      refine ⟨.mk x y s ss os, ?_, ?_⟩
      · simp only [encO, encK, encT, hc]; rfl
      · simp only [okO]
        refine ⟨hs, ?_, q3, ?_, r3⟩
        · simpa [maxLen] using q1
        · rw [encL_len] at r1; simpa [maxLen] using r1
theorem dt_objs : ∀ {ds : List D}, DTa Try.prog ds 25 → ∃ os, ds = encL os ∧ okL os
  | [], _ => ⟨[], rfl, by simp [okL]⟩
  | d :: ds, h => by
    simp only [DTa] at h
    obtain ⟨o, rfl, h1⟩ := dt_obj h.1
    obtain ⟨os, rfl, h2⟩ := dt_objs h.2
    exact ⟨o :: os, rfl, by simp only [okL]; exact ⟨h1, h2⟩⟩
end
end Go.Proofs.Ytdfmdclfnhgjiaa.Can
namespace Go.Proofs.Ytdfmdclfnhgjiaa
open Go Go.ChangeShapes Go.WideShapes Go.ChangeAt Go.RowKit Go.Proofs.Ytdfmdclfnhgjiaa.Can

theorem entry_law (h : CH) (vs : List Value) (ds : List D) (g : Args Try.prog h [25, 9] vs ds) (hn : NoOwn h) : callW Try.prog 3 vs h fun r h' => r = .bool true := by
  obtain ⟨v, vr, d, dr, rfl, rfl, g1, v2, vr2, d2, dr2, rfl, rfl, g2, rfl, rfl⟩ := g
  obtain ⟨o, rfl, ho⟩ := dt_obj g1.dt
  obtain ⟨s, rfl, hs⟩ := dt_text Try.underlying9 g2.dt
  have e2 : v2 = .string s := by
    have q := g2.rd
    simp only [encT, Rd] at q
    rcases g2.form with ⟨⟨fs, e⟩, _⟩ | e
    · rw [Try.underlying9] at e; cases e
    · rw [e] at q
      simpa using q.1
  subst e2
  rcases g1.form with ⟨_, cs, rfl⟩ | e
  · exact c3 (S := (· < h.size)) (by simpa [Value.cells] using g1.rd) (fun n hn => hn) ho hs
  · have := g1.rd.len
    rw [e, wid_obj] at this
    simp at this

theorem own : ownKnob Try.prog.godebug = none := by kernel_rfl
theorem laidOut : laidOutB Try.prog = true := by kernel_rfl
theorem plainTypes : closedT Try.prog [3, 9, 22, 23, 25] = true := by kernel_rfl

set_option maxRecDepth 100000 in
theorem entry_lifted (os : Os) (started : os.Started) (H : Type) (enc : TypeId × Value → H) :
    ReturnsInHanded {} Try.checked os 3 .any (Rows.fnExactEntrySpec.pre6 enc Try.prog Try.f3 Rows.fnExactEntryRow.domain false) (Rows.fnExactEntrySpec.post enc Try.prog Try.f3 false true false false) := by
  refine returnsInHanded_of_change_sized (C := Try.checked) own started (by kernel_rfl) Try.func3
    (ChangeSpec.witness6 (enc := enc) (C := Try.checked) false ⟨#[], #[.agg #[.int .i64 0, .int .i64 0, .string ByteArray.empty, .slice none 0 0, .slice none 0 0], .string ByteArray.empty], []⟩ 8 (by kernel_rfl) (by kernel_rfl) (by kernel_rfl) (by kernel_rfl)) ?_
  intro W base args ds gs before hval0 hW hcnd hsz0 _
  have hval : ∀ (j : Nat) t v, Try.f3.params[j]? = some t → args[j]? = some v → Value.okWide Try.prog W .any base t v := hval0
  have hW' := hW
  obtain ⟨p, q, hA0, hV, rfl, hfz, hnd⟩ := hW
  have hA : DataW.TrodAll enc Try.prog W 0 (fun _ => true) true Try.f3.params.toList args.toList ds p := hA0
  rw [Try.params3] at hA hval
  obtain ⟨rfl, rfl⟩ := trodVars_none hV
  have hA2 := hA
  obtain ⟨v0, vs0, d0, ds0, p0, q0, hargs, rfl, rfl, h0, r0⟩ := trodAll_cons hA
  obtain ⟨v1, vs1, d1, ds1, p1, q1, rfl, rfl, rfl, h1, r1⟩ := trodAll_cons r0
  obtain ⟨rfl, rfl, rfl⟩ := trodAll_nil r1
  clear hA0 hval0 hsz0
  refine (calls_true plainTypes hA2 (fun j t v e1 e2 => hval j t v (by simpa using e1) e2) (by kernel_rfl) entry_law).mono fun e W' ⟨he, bel⟩ => ?_
  subst he
  exact ⟨_, rfl, _, _, _, [], _, [], hW', trodAll_mk1 (shut_bool Try.underlying4 _), back_args laidOut bel _ _ _ _ (by kernel_rfl) hA2, rfl, bel.frame _, fun h => by cases h⟩

theorem FnExactEntry_holds : Rows.FnExactEntrySaid :=
  OpenClaim.holds_of_wide 3 Try.f3 rfl rfl rfl rfl rfl rfl rfl ⟨rfl, rfl, rfl, rfl, rfl⟩ rfl rfl rfl rfl rfl (by kernel_rfl) Try.func3 (by kernel_rfl)
    (of_decide_eq_true (by kernel_rfl)) (by unfold Func.isWrapper; first | (rw [if_pos (by decide +kernel)]; kernel_rfl) | (rw [if_neg (by decide +kernel)]; exact ⟨rfl, rfl⟩))
    (fun os started H enc _ => entry_lifted os started H enc)
#print axioms FnExactEntry_holds
end Go.Proofs.Ytdfmdclfnhgjiaa
