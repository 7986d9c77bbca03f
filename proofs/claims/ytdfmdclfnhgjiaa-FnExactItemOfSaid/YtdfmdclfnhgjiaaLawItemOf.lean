/- FnExactItemOf: the program's ItemOf returns what the reference's returns, for all arguments.
   Conditions: none. -/
import Derived.Test.YtdfmdclfnhgjiaaRows
import Derived.Test.YtdfmdclfnhgjiaaLawTypes
import Derived.Test.YtdfmdclfnhgjiaaObV
set_option linter.unusedVariables false
namespace Go.Proofs.Ytdfmdclfnhgjiaa.Can
open Go

theorem dt_bool {d : D} {t : TypeId} {P : Program} (hu : P.underlying t = some .bool) (h : DT P d t) : ∃ b, d = .val (.bool b) := by
  cases d with
  | val x =>
    simp only [DT, hu] at h
    cases x <;> simp at h
    exact ⟨_, rfl⟩
  | str ds => simp [DT, hu] at h
  | arr k ds => simp [DT, hu] at h

set_option maxRecDepth 100000
theorem dt_item {d : D} (h : DT Try.prog d 106) : ∃ x, d = encI x ∧ okI0 x := by
  cases d with
  | val x => simp only [DT, Try.underlying106] at h
  | arr k ds => simp [DT, Try.underlying106] at h
  | str ds =>
    simp only [DT, Try.underlying106, Option.some.injEq, TypeDesc.struct.injEq] at h
    obtain ⟨fs, rfl, h⟩ := h
    rcases ds with _ | ⟨a, _ | ⟨b, _ | ⟨c, _ | ⟨e, _ | ⟨f, ds⟩⟩⟩⟩⟩ <;> simp [DTs] at h
    obtain ⟨h1, h2, h3, h4⟩ := h
    obtain ⟨n, rfl, _⟩ := dt_int Try.underlying3 h1
    obtain ⟨o, rfl, ho⟩ := dt_obj h2
    obtain ⟨q, rfl⟩ := dt_bool Try.underlying4 h3
    obtain ⟨s, rfl, hs⟩ := dt_text Try.underlying9 h4
    exact ⟨⟨n, o, q, s⟩, rfl, ho, hs⟩
theorem dt_items : ∀ {ds : List D}, DTa Try.prog ds 106 → ∃ xs : List IT, ds = xs.map encI ∧ ∀ x ∈ xs, okI0 x
  | [], _ => ⟨[], rfl, by simp⟩
  | d :: ds, h => by
    simp only [DTa] at h
    obtain ⟨x, rfl, h1⟩ := dt_item h.1
    obtain ⟨xs, rfl, h2⟩ := dt_items h.2
    exact ⟨x :: xs, rfl, by simpa using ⟨h1, h2⟩⟩
theorem dt_doc {d : D} (h : DT Try.prog d 46) : ∃ xs root, d = encDoc xs root ∧ okIs0 xs := by
  cases d with
  | val x => simp only [DT, Try.underlying46] at h
  | arr k ds => simp [DT, Try.underlying46] at h
  | str ds =>
    simp only [DT, Try.underlying46, Option.some.injEq, TypeDesc.struct.injEq] at h
    obtain ⟨fs, rfl, h⟩ := h
    rcases ds with _ | ⟨a, _ | ⟨b, _ | ⟨c, ds⟩⟩⟩ <;> simp [DTs] at h
    obtain ⟨h1, h2⟩ := h
    obtain ⟨es, rfl, q1, q2⟩ := dt_slice Try.underlying44 h1
    obtain ⟨xs, rfl, q3⟩ := dt_items q2
    obtain ⟨n, rfl, _⟩ := dt_int Try.underlying3 h2
    have hc : Try.prog.cellsOf 106 = 8 := by kernel_rfl
    refine ⟨xs, n, ?_, ?_, q3⟩
    · simp only [encDoc, encIs, hc]
    · simpa [maxLen] using q1
end Go.Proofs.Ytdfmdclfnhgjiaa.Can
namespace Go.Proofs.Ytdfmdclfnhgjiaa
open Go Go.ChangeShapes Go.WideShapes Go.ChangeAt Go.RowKit Go.Proofs.Ytdfmdclfnhgjiaa.Can

theorem itemOf_law (h : CH) (vs : List Value) (ds : List D) (g : Args Try.prog h [46, 3] vs ds) (hn : NoOwn h) : callW Try.prog 6 vs h fun r h' => r = .bool true := by
  obtain ⟨v, vr, d, dr, rfl, rfl, g1, v2, vr2, d2, dr2, rfl, rfl, g2, rfl, rfl⟩ := g
  obtain ⟨xs, root, rfl, ho⟩ := dt_doc g1.dt
  obtain ⟨n, rfl, _⟩ := dt_int Try.underlying3 g2.dt
  have e2 : v2 = .int .i64 n := by
    have q := g2.rd
    simp only [Rd] at q
    rcases g2.form with ⟨⟨fs, e⟩, _⟩ | e
    · rw [Try.underlying3] at e; cases e
    · rw [e] at q
      simpa using q.1
  subst e2
  rcases g1.form with ⟨_, cs, rfl⟩ | e
  · exact c6 (S := (· < h.size)) (by simpa [Value.cells] using g1.rd) (fun n hn => hn) ho
  · have := g1.rd.len
    rw [e] at this
    simp [encDoc, encIs, wid, wids] at this

theorem plainTypes6 : closedT Try.prog [3, 4, 9, 22, 23, 25, 44, 46, 106] = true := by kernel_rfl

set_option maxRecDepth 100000 in
theorem itemOf_lifted (os : Os) (started : os.Started) (H : Type) (enc : TypeId × Value → H) :
    ReturnsInHanded {} Try.checked os 6 .any (Rows.fnExactItemOfSpec.pre6 enc Try.prog Try.f6 Rows.fnExactItemOfRow.domain false) (Rows.fnExactItemOfSpec.post enc Try.prog Try.f6 false true false false) := by
  refine returnsInHanded_of_change_sized (C := Try.checked) own started (by kernel_rfl) Try.func6
    (ChangeSpec.witness6 (enc := enc) (C := Try.checked) false ⟨#[], #[.agg #[.slice none 0 0, .int .i64 0], .int .i64 0], []⟩ 8 (by kernel_rfl) (by kernel_rfl) (by kernel_rfl) (by kernel_rfl)) ?_
  intro W base args ds gs before hval0 hW hcnd hsz0 _
  have hval : ∀ (j : Nat) t v, Try.f6.params[j]? = some t → args[j]? = some v → Value.okWide Try.prog W .any base t v := hval0
  have hW' := hW
  obtain ⟨p, q, hA0, hV, rfl, hfz, hnd⟩ := hW
  have hA : DataW.TrodAll enc Try.prog W 0 (fun _ => true) true Try.f6.params.toList args.toList ds p := hA0
  rw [Try.params6] at hA hval
  obtain ⟨rfl, rfl⟩ := trodVars_none hV
  have hA2 := hA
  obtain ⟨v0, vs0, d0, ds0, p0, q0, hargs, rfl, rfl, h0, r0⟩ := trodAll_cons hA
  obtain ⟨v1, vs1, d1, ds1, p1, q1, rfl, rfl, rfl, h1, r1⟩ := trodAll_cons r0
  obtain ⟨rfl, rfl, rfl⟩ := trodAll_nil r1
  clear hA0 hval0 hsz0
  refine (calls_true plainTypes6 hA2 (fun j t v e1 e2 => hval j t v (by simpa using e1) e2) (by kernel_rfl) itemOf_law).mono fun e W' ⟨he, bel⟩ => ?_
  subst he
  exact ⟨_, rfl, _, _, _, [], _, [], hW', trodAll_mk1 (shut_bool Try.underlying4 _), back_args laidOut bel _ _ _ _ (by kernel_rfl) hA2, rfl, bel.frame _, fun h => by cases h⟩

theorem FnExactItemOf_holds : Rows.FnExactItemOfSaid :=
  OpenClaim.holds_of_wide 6 Try.f6 rfl rfl rfl rfl rfl rfl rfl ⟨rfl, rfl, rfl, rfl, rfl⟩ rfl rfl rfl rfl rfl (by kernel_rfl) Try.func6 (by kernel_rfl)
    (of_decide_eq_true (by kernel_rfl)) (by unfold Func.isWrapper; first | (rw [if_pos (by decide +kernel)]; kernel_rfl) | (rw [if_neg (by decide +kernel)]; exact ⟨rfl, rfl⟩))
    (fun os started H enc _ => itemOf_lifted os started H enc)
#print axioms FnExactItemOf_holds
end Go.Proofs.Ytdfmdclfnhgjiaa
