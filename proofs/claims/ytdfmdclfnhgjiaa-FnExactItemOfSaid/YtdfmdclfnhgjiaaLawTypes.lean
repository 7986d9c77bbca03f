/- What comes in, as objects; two facts of the program.
   Conditions: none. -/
import Derived.Test.YtdfmdclfnhgjiaaCanZ
import Derived.Test.YtdfmdclfnhgjiaaObA
import Derived.WalkKit
import Derived.ProofKit
import Derived.OpenShut
import Derived.Below
import Derived.SizedLaws
set_option linter.unusedVariables false
namespace Go.Proofs.Ytdfmdclfnhgjiaa.Can
open Go

/-- A tree of the type Obj. -/
theorem dt_text {d : D} {t : TypeId} {P : Program} (hu : P.underlying t = some .string) (h : DT P d t) : ∃ s, d = encT s ∧ okS s := by
  cases d with
  | val x =>
    simp only [DT, hu] at h
    cases x <;> simp at h
    exact ⟨_, rfl, h⟩
  | str ds => simp [DT, hu] at h
  | arr k ds => simp [DT, hu] at h
theorem dt_int {d : D} {t : TypeId} {P : Program} {k : IntKind} (hu : P.underlying t = some (.int k)) (h : DT P d t) : ∃ n, d = .val (.int k n) ∧ (Lit.int k n).wf = true := by
  cases d with
  | val x =>
    simp only [DT, hu] at h
    cases x <;> simp at h
    obtain ⟨rfl, h⟩ := h
    exact ⟨_, rfl, h⟩
  | str ds => simp [DT, hu] at h
  | arr k ds => simp [DT, hu] at h
theorem dt_slice {d : D} {t e : TypeId} {P : Program} (hu : P.underlying t = some (.slice e)) (h : DT P d t) : ∃ ds, d = .arr (P.cellsOf e) ds ∧ ds.length ≤ maxLen ∧ DTa P ds e := by
  cases d with
  | val x =>
    simp only [DT, hu] at h
  | str ds => simp [DT, hu] at h
  | arr k ds =>
    simp only [DT, hu] at h
    obtain ⟨e', he, rfl, h1, h2⟩ := h
    cases he
    exact ⟨ds, rfl, h1, h2⟩
theorem dt_texts {P : Program} {e : TypeId} (hu : P.underlying e = some .string) : ∀ {ds : List D}, DTa P ds e → ∃ ss : List ByteArray, ds = ss.map encT ∧ ∀ s ∈ ss, okS s
  | [], _ => ⟨[], rfl, by simp⟩
  | d :: ds, h => by
    simp only [DTa] at h
    obtain ⟨s, rfl, h1⟩ := dt_text hu h.1
    obtain ⟨ss, rfl, h2⟩ := dt_texts hu h.2
    exact ⟨s :: ss, rfl, by simpa using ⟨h1, h2⟩⟩

set_option maxRecDepth 100000
mutual
theorem dt_obj : ∀ {d : D}, DT Try.prog d 25 → ∃ o, d = encO o ∧ okO o
  | .val x, h => by simp only [DT, Try.underlying25] at h
  | .arr k ds, h => by simp [DT, Try.underlying25] at h
  | .str ds, h => by
    simp only [DT, Try.underlying25, Option.some.injEq, TypeDesc.struct.injEq] at h
    obtain ⟨fs, rfl, h⟩ := h
    rcases ds with _ | ⟨a, _ | ⟨b, _ | ⟨c, _ | ⟨e, _ | ⟨f, _ | ⟨g, ds⟩⟩⟩⟩⟩⟩ <;> simp [DTs] at h
    obtain ⟨h1, h2, h3, h4, h5⟩ := h
    obtain ⟨x, rfl, _⟩ := dt_int Try.underlying3 h1
    obtain ⟨y, rfl, _⟩ := dt_int Try.underlying3 h2
    obtain ⟨s, rfl, hs⟩ := dt_text Try.underlying9 h3
    obtain ⟨es, rfl, q1, q2⟩ := dt_slice Try.underlying22 h4
    obtain ⟨ss, rfl, q3⟩ := dt_texts Try.underlying9 q2
    have hc : Try.prog.cellsOf 25 = 5 := by kernel_rfl
    cases f with
    | val x => simp [DT, Try.underlying23] at h5
    | str ds => simp [DT, Try.underlying23] at h5
    | arr k ds =>
      simp only [DT, Try.underlying23] at h5
      obtain ⟨e', he, rfl, r1, r2⟩ := h5
      cases he
      obtain ⟨os, rfl, r3⟩ := dt_objs r2
      refine ⟨.mk x y s ss os, ?_, ?_⟩
      · simp only [encO, encK, encT, hc]; rfl
      · simp only [okO]
        refine ⟨hs, ?_, q3, ?_, r3⟩
        · simpa [maxLen] using q1
        · rw [encL_len] at r1; simpa [maxLen] using r1
theorem dt_objs : ∀ {ds : List D}, DTa Try.prog ds 25 → ∃ os, ds = encL os ∧ okL os
  | [], _ => ⟨[], rfl, by simp [okL]⟩
  | d :: ds, h => by
    simp only [DTa] at h
    obtain ⟨o, rfl, h1⟩ := dt_obj h.1
    obtain ⟨os, rfl, h2⟩ := dt_objs h.2
    exact ⟨o :: os, rfl, by simp only [okL]; exact ⟨h1, h2⟩⟩
end
end Go.Proofs.Ytdfmdclfnhgjiaa.Can
namespace Go.Proofs.Ytdfmdclfnhgjiaa
open Go Go.ChangeShapes Go.WideShapes Go.ChangeAt Go.RowKit Go.Proofs.Ytdfmdclfnhgjiaa.Can
theorem own : ownKnob Try.prog.godebug = none := by kernel_rfl
theorem laidOut : laidOutB Try.prog = true := by kernel_rfl
end Go.Proofs.Ytdfmdclfnhgjiaa
