/- From a row's arguments to a call's fact.
   Conditions: the arguments' types are plain (closedT). -/
import Derived.Test.YtdfmdclfnhgjiaaCanY
import Derived.Below
import Derived.ChangeShapes
import Derived.Carry
import Derived.OpenShut
set_option linter.unusedVariables false
set_option linter.unusedSimpArgs false
namespace Go.Proofs.Ytdfmdclfnhgjiaa.Can
open Go Go.ChangeShapes Go.RowKit

section
variable {H : Type} {enc : TypeId × Value → H} {P : Program} {w : World} {L : List TypeId}

theorem spot_cell {r : Reach} {base : Nat} {u : TypeId} {v : Value} (h : Cell.okWide P w r base u v) : Spot w [v] := by
  intro a len cap hm
  rw [List.mem_singleton] at hm
  subst hm
  unfold Cell.okWide at h
  split at h
  · rename_i e; cases e
  · rename_i e; cases e
  · rename_i e; cases e
  · rename_i e; cases e
  · rename_i e; cases e
  · rename_i e; cases e
  · rename_i e; cases e
  · unfold Cell.ok at h
    split at h
    all_goals first
      | (rename_i e; cases e; done)
      | (cases h; done)
      | skip
    rename_i e1
    cases e1
    obtain ⟨_, _, _, _, row, cells, hs, _⟩ := h
    unfold World.shape? at hs
    split at hs
    · rename_i C et fz hb
      exact ⟨a.block, C, et, fz, hb⟩
    · cases hs

/-- A value of a plain type that is no struct is one cell. -/
theorem one_cell (hL : closedT P L = true) {t : TypeId} (ht : L.contains t = true) {r : Reach} {base : Nat} {v : Value} (hs : ∀ fs, P.underlying t ≠ some (.struct fs)) (h : Value.okWide P w r base t v) : v.cells = #[v] ∧ Cell.okWide P w r base t v := by
  have hc := List.all_eq_true.1 hL t (by simpa using ht)
  unfold Value.okWide at h
  split at h
  · rename_i fs e; exact absurd e (hs fs)
  · rename_i e; simp [e] at hc
  · refine ⟨?_, h⟩
    cases v <;> first | rfl | skip
    exfalso
    unfold Cell.okWide at h
    split at h <;> first | (rename_i e; cases e; done) | skip
    unfold Cell.ok at h
    split at h <;> first | (rename_i e; cases e; done) | (cases h; done)

theorem spot_arg (hL : closedT P L = true) {t : TypeId} (ht : L.contains t = true) {r : Reach} {base : Nat} {v : Value} (h : Value.okWide P w r base t v) : Spot w v.cells.toList := by
  by_cases hs : ∃ fs, P.underlying t = some (.struct fs)
  · obtain ⟨fs, hs⟩ := hs
    unfold Value.okWide at h
    rw [hs] at h
    obtain ⟨cs, rfl, _, ts, _, _, hr⟩ := h
    intro a len cap hm
    obtain ⟨i, hi⟩ := List.getElem?_of_mem hm
    obtain ⟨u, _, hu⟩ := hr i _ (by simpa [Value.cells] using hi)
    exact spot_cell hu a len cap (by simp)
  · obtain ⟨e, hc⟩ := one_cell hL ht (fun fs e => hs ⟨fs, e⟩) h
    rw [e]
    exact spot_cell hc

/-- An argument in the second heap: a tree of its type. -/
structure Arg (P : Program) (h : CH) (t : TypeId) (v : Value) (d : D) : Prop where
  rd : Rd h (· < h.size) d v.cells.toList
  dt : DT P d t
  form : (∃ fs, P.underlying t = some (.struct fs)) ∧ (∃ cs : List Value, v = .agg cs.toArray) ∨ v.cells = #[v]

def Args (P : Program) (h : CH) : List TypeId → List Value → List D → Prop
  | [], vs, ds => vs = [] ∧ ds = []
  | t :: ts, vs, ds => ∃ v vr d dr, vs = v :: vr ∧ ds = d :: dr ∧ Arg P h t v d ∧ Args P h ts vr dr

theorem Arg.up {h h' : CH} {t : TypeId} {v : Value} {d : D} (g : Arg P h t v d) (e : Ext h h') : Arg P h' t v d :=
  ⟨(g.rd.ext (fun n hn => hn) e).wide (fun n hn => Nat.lt_of_lt_of_le hn e.size), g.dt, g.form⟩

theorem come_arg (hL : closedT P L = true) {t : TypeId} (ht : L.contains t = true) {r : Reach} {base : Nat} {v : Value} (hv : Value.okWide P w r base t v) {x : DataW H} {p : List MemPlace} (hd : DataW.Trod enc P w 0 (fun _ => true) true t v x p) {ι : Map} {h : CH} (hr : HR ι h w) (hn : NoOwn h) :
    ∃ ι' h' u d, Got w ι h ι' h' ∧ VR ι' u v ∧ Arg P h' t u d := by
  obtain ⟨fuel, hf⟩ := hd
  obtain ⟨ι', h', cs', d, g1, g2, g3, g4, g5⟩ := come (enc := enc) (w := w) hL fuel t v.cells.toList _ ι h ht hf hr hn (spot_arg hL ht hv)
  by_cases hs : ∃ fs, P.underlying t = some (.struct fs)
  · obtain ⟨fs, hs⟩ := hs
    have hv2 := hv
    unfold Value.okWide at hv2
    rw [hs] at hv2
    obtain ⟨cs, rfl, _⟩ := hv2
    refine ⟨ι', h', .agg cs'.toArray, d, g1, ?_, ⟨by simpa [Value.cells] using g3, g4, .inl ⟨⟨fs, hs⟩, cs', rfl⟩⟩⟩
    have := g2.toArray
    simp only [Value.cells, Array.toArray_toList] at this
    exact .agg _ _ this.1 this.2
  · obtain ⟨e, _⟩ := one_cell hL ht (fun fs e => hs ⟨fs, e⟩) hv
    rw [e] at g2
    obtain ⟨u, hu⟩ : ∃ u, cs' = [u] := List.length_eq_one_iff.1 (by simpa using g2.1)
    subst hu
    have hone := g3.ones
    simp only [List.all_cons, List.all_nil, Bool.and_true] at hone
    have hc : u.cells = #[u] := by cases u <;> first | rfl | (simp [Value.oneCell'] at hone; done)
    exact ⟨ι', h', u, d, g1, g2.head, ⟨by rw [hc]; exact g3, g4, .inr hc⟩⟩

theorem come_args (hL : closedT P L = true) {r : Reach} {base : Nat} : ∀ (ts : List TypeId) (vs : List Value) (xs : List (DataW H)) (p : List MemPlace) (ι : Map) (h : CH), (∀ t ∈ ts, L.contains t = true) → (∀ (j : Nat) t v, ts[j]? = some t → vs[j]? = some v → Value.okWide P w r base t v) →
    DataW.TrodAll enc P w 0 (fun _ => true) true ts vs xs p → HR ι h w → NoOwn h → ∃ ι' h' us ds, Got w ι h ι' h' ∧ VL ι' us vs ∧ Args P h' ts us ds
  | [], vs, xs, p, ι, h, _, _, hA, hr, hn => by
    obtain ⟨rfl, rfl, rfl⟩ := trodAll_nil hA
    exact ⟨ι, h, [], [], Got.refl hr hn, .nil ι, rfl, rfl⟩
  | t :: ts, vs, xs, p, ι, h, ht, hv, hA, hr, hn => by
    obtain ⟨v, vr, x, xr, q, q', rfl, rfl, rfl, h1, h2⟩ := trodAll_cons hA
    -- the later ones first, so that the first one is carried by Ext
    obtain ⟨ι1, h1', u, d, g1, g2, g3⟩ := come_arg hL (ht t List.mem_cons_self) (hv 0 t v rfl rfl) h1 hr hn
    obtain ⟨ι2, h2', us, ds, k1, k2, k3⟩ := come_args hL ts vr xr q' ι1 h1' (fun t h => ht t (List.mem_cons_of_mem _ h)) (fun j t v e1 e2 => hv (j + 1) t v (by simpa using e1) (by simpa using e2)) h2 g1.rel g1.no
    exact ⟨ι2, h2', u :: us, d :: ds, g1.trans k1, .cons (g2.mono k1.le) k2, u, us, d, ds, rfl, rfl, g3.up k1.ext, k3⟩

theorem hr_empty : HR (fun _ => Option.none) ⟨0, fun _ => .dead 0⟩ w :=
  ⟨fun o i e => (by cases e), fun o o' i i' _ e => (by cases e), fun o i e => (by cases e), fun o i e => (by cases e)⟩

/-- A law that comes to true in the second heap comes to true in the machine's, and leaves what was there. -/
theorem calls_true (hL : closedT P L = true) {f : FuncId} {ts : List TypeId} {args : Array Value} {xs : List (DataW H)} {p : List MemPlace} {base : Nat} (hA : DataW.TrodAll enc P w 0 (fun _ => true) true ts args.toList xs p)
    (hv : ∀ (j : Nat) t v, ts[j]? = some t → args[j]? = some v → Value.okWide P w .any base t v) (ht : ts.all (L.contains ·) = true)
    (law : ∀ h vs ds, Args P h ts vs ds → NoOwn h → callW P f vs h fun r h' => r = .bool true) : Calls P f args w fun e W' => e = .returned (.bool true) ∧ Below w.heap.size w W' := by
  obtain ⟨ι, h, us, ds, g1, g2, g3⟩ := come_args (enc := enc) hL ts args.toList xs p _ _ (fun t h => List.all_eq_true.1 ht t h) (fun j t v e1 e2 => hv j t v e1 (by simpa using e2)) hA hr_empty (fun o => rfl)
  obtain ⟨v, h', hs, rfl⟩ := law h us ds g3 g1.no
  have hc := hs.2 ι w args.toList g1.rel g2
  simp only [Array.toArray_toList] at hc
  refine hc.mono ?_
  rintro e w' ⟨v', rfl, κ, q1, q2, q3⟩
  rw [q1.of_base rfl]
  refine ⟨rfl, q3.os, q3.tape, q3.output, q3.size, fun b hb => q3.block b hb ?_⟩
  rintro ⟨o, i, e1, e2, _⟩
  rw [g1.no o] at e2
  cases e2

/-- The arguments read behind the call as they read before. -/
theorem back_args (hl : laidOutB P = true) {W' : World} (bel : Below w.heap.size w W') : ∀ (ts : List TypeId) (vs : List Value) (xs : List (DataW H)) (p : List MemPlace), (ts.all fun t => P.readableRec t && decide (t < P.types.size)) = true →
    DataW.TrodAll enc P w 0 (fun _ => true) true ts vs xs p → DataW.TrodAll enc P W' 0 (fun b => decide (b < w.heap.size)) true ts vs xs p
  | [], vs, xs, p, _, hA => by
    obtain ⟨rfl, rfl, rfl⟩ := trodAll_nil hA
    exact trodAll_mk0
  | t :: ts, vs, xs, p, ht, hA => by
    obtain ⟨v, vr, x, xr, q, q', rfl, rfl, rfl, h1, h2⟩ := trodAll_cons hA
    simp only [List.all_cons, Bool.and_eq_true, decide_eq_true_eq] at ht
    exact trodAll_cons_mk (Below.trod hl ht.1.1 ht.1.2 h1 bel (by obtain ⟨m, hm⟩ := h1; exact DataW.trod_lt m _ _ _ hm)) (back_args hl bel ts vr xr q' (by simpa using ht.2) h2)
end
end Go.Proofs.Ytdfmdclfnhgjiaa.Can
