/- Rules for slices that grow.
   Conditions: those that each rule names. -/
import Derived.Test.YtdfmdclfnhgjiaaCanT
set_option linter.unusedVariables false
set_option linter.unusedSimpArgs false
namespace Go.Proofs.Ytdfmdclfnhgjiaa.Can
open Go

section
variable {P : Program} {h : CH} {L : Value → CH → Prop}

theorem s_blds0 {k : Nat} {u : Tok L} : stepT P (.blds k 0 [] []) [] h L u = L (.slice (some ⟨h.size, 0, none⟩) 0 0) (h.push (.cells [] k false true)) := rfl
theorem s_blds1 {k : Nat} {z : List Value} {x : Value} {u : Tok L} (hz : z.length = k) (hx : x.cells.size = k) (ho : x.cells.toList.all (·.oneCell') = true) :
    stepT P (.blds k 1 z [(0, k)]) [x] h L u = L (.slice (some ⟨h.size, 0, none⟩) 1 1) (h.push (.cells x.cells.toList k false true)) := by
  have e : setAt z 0 x.cells.toList = x.cells.toList := by
    simp [setAt, hx, ← hz]
  have e2 : newC (.blds k 1 z [(0, k)]) [x] = some (.cells x.cells.toList k false true, fun n => .slice (some ⟨n, 0, none⟩) 1 1) := by
    simp only [newC, List.length_cons, List.length_nil, List.all_cons, List.all_nil, ho, Bool.and_true, and_self, if_true, List.zip_cons_cons, List.zip_nil_left, fillC, hx, hz, Nat.zero_add, Nat.le_refl, e, Option.map_some]
  show nW (newC (.blds k 1 z [(0, k)]) [x]) (fun co f => L (f h.size) (h.push co)) = _
  rw [e2]; rfl

theorem s_bld {z : List Value} {pl : List (Nat × Nat)} {vs c : List Value} {u : Tok L} (h1 : vs.length = pl.length) (h2 : fillC z (pl.zip vs) = some c) : stepT P (.bld z pl) vs h L u = L (.agg c.toArray) h := by
  show oW (pureC (.bld z pl) vs) (fun v => L v h) = _
  simp only [pureC, h1, if_true, h2, Option.map_some, oW]

/-- A slice that fills all its own block. -/
def Full (h : CH) (k : Nat) (v : Value) (len : Nat) (cs : List Value) (B : List Nat) : Prop :=
  (v = .slice none 0 0 ∧ len = 0 ∧ cs = [] ∧ B = []) ∨ ∃ n opn, v = .slice (some ⟨n, 0, none⟩) len len ∧ h.at_ n = .cells cs k opn true ∧ cs.length = len * k ∧ B = [n] ∧ n < h.size

theorem Full.keep {h h' : CH} {k len : Nat} {v : Value} {cs : List Value} {B : List Nat} (g : Full h k v len cs B) (hs : h.size ≤ h'.size) (hk : ∀ n ∈ B, h'.at_ n = h.at_ n) : Full h' k v len cs B := by
  rcases g with g | ⟨n, opn, e1, e2, e3, rfl, e4⟩
  · exact .inl g
  · exact .inr ⟨n, opn, e1, (hk n (by simp)).trans e2, e3, rfl, by omega⟩
theorem Full.one {k len : Nat} {v : Value} {cs : List Value} {B : List Nat} (g : Full h k v len cs B) : v.oneCell' = true := by
  rcases g with ⟨rfl, _⟩ | ⟨n, opn, rfl, _⟩ <;> rfl
theorem Full.lt {k len : Nat} {v : Value} {cs : List Value} {B : List Nat} (g : Full h k v len cs B) : ∀ n ∈ B, n < h.size := by
  rcases g with ⟨_, _, _, rfl⟩ | ⟨n, opn, _, _, _, rfl, e4⟩
  · simp
  · simpa using e4

theorem Full.own {k : Nat} {v : Value} {cs : List Value} {B F : List Nat} {ds : List D} (g : Full h k v ds.length cs B) (ho : Owns h ds cs F) (hw : ∀ d ∈ ds, wid d = k) (hd : ∀ n ∈ B, n ∉ F) : Own h (.arr k ds) [v] (B ++ F) := by
  simp only [Own]
  refine ⟨hw, ?_⟩
  rcases g with ⟨rfl, e1, rfl, rfl⟩ | ⟨n, opn, rfl, e2, e3, rfl, e4⟩
  · have e0 : ds = [] := List.length_eq_zero_iff.1 e1
    subst e0
    simp only [Owns] at ho
    exact .inl ⟨rfl, rfl, by simp [ho.2]⟩
  · exact .inr ⟨n, cs, opn, ds.length, F, rfl, rfl, hd n (by simp), e2, e3, by omega, by rw [← e3, List.take_length]; exact ho⟩

theorem app_full {k b len m : Nat} {v x : Value} {cs xs : List Value} {B : List Nat} {u : Tok L} (hf : Full h k v len cs B) (hx : srcC k h x = some (m, xs)) (hxl : xs.length = m * k) (hb : (len + m) * b ≤ 140737488351232) (hb2 : len + m ≤ 140737488351232)
    (hL : ∀ v' h' B', h.size ≤ h'.size → h'.size ≤ h.size + 1 → (∀ j, j < h.size → j ∉ B → h'.at_ j = h.at_ j) → (∀ j ∈ B', j ∈ B ∨ j = h.size) → Full h' k v' (len + m) (cs ++ xs) B' → L v' h') : stepT P (.app k b) [v, x] h L u := by
  show pW (appC k b v x h) L
  by_cases hm : m = 0
  · subst hm
    have e : xs = [] := by simpa using hxl
    subst e
    have hv : appC k b v x h = some (v, h) := by
      rcases hf with ⟨rfl, rfl, rfl, rfl⟩ | ⟨n, opn, rfl, e2, e3, rfl, e4⟩
      · simp [appC, hx]
      · simp [appC, hx, e2]
    rw [hv]
    exact hL v h B (Nat.le_refl _) (Nat.le_succ _) (fun _ _ _ => rfl) (fun j hj => .inl hj) (by simpa using hf)
  · rcases hf with ⟨rfl, rfl, rfl, rfl⟩ | ⟨n, opn, rfl, e2, e3, rfl, e4⟩
    · have hb' : m * b ≤ 140737488351232 ∧ m ≤ 140737488351232 := by simpa using And.intro hb hb2
      have hv : appC k b (.slice none 0 0) x h = some (.slice (some ⟨h.size, 0, none⟩) m m, h.push (.cells xs k true true)) := by
        simp [appC, hx, hm, hb'.1, hb'.2]
      rw [hv]
      refine hL _ _ [h.size] (Nat.le_succ _) (Nat.le_refl _) (fun j hj _ => push_old hj) (fun j hj => .inr (by simpa using hj)) (.inr ⟨h.size, true, by simp, by simpa using push_new, by simpa using hxl, rfl, Nat.lt_succ_self _⟩)
    · have hlt : ¬ len + m ≤ len := by omega
      cases hop : opn
      · subst hop
        have hv : appC k b (.slice (some ⟨n, 0, none⟩) len len) x h = some (.slice (some ⟨h.size, 0, none⟩) (len + m) (len + m), h.push (.cells (cs ++ xs) k true true)) := by
          have et : (cs.drop 0).take (len * k) = cs := by rw [List.drop_zero, ← e3, List.take_length]
          simp only [appC, hx, e2, if_true, if_neg hlt, hb, hb2, and_self, Bool.false_eq_true, false_and, if_false, et]
        rw [hv]
        refine hL _ _ [h.size] (Nat.le_succ _) (Nat.le_refl _) (fun j hj _ => push_old hj) (fun j hj => .inr (by simpa using hj)) (.inr ⟨h.size, true, rfl, push_new, by simp [e3, hxl, Nat.add_mul], rfl, Nat.lt_succ_self _⟩)
      · subst hop
        have hv : appC k b (.slice (some ⟨n, 0, none⟩) len len) x h = some (.slice (some ⟨h.size, 0, none⟩) (len + m) (len + m), (h.set n (.dead k)).push (.cells (cs ++ xs) k true true)) := by
          have et : (cs.drop 0).take (len * k) = cs := by rw [List.drop_zero, ← e3, List.take_length]
          have e0 : (0 : Nat) + len * k = cs.length := by omega
          simp only [appC, hx, e2, if_true, if_neg hlt, hb, hb2, and_self, et, e0]
        rw [hv]
        refine hL _ _ [h.size] (Nat.le_succ _) (Nat.le_refl _) (fun j hj hjB => ?_) (fun j hj => .inr (by simpa using hj)) (.inr ⟨h.size, true, rfl, ?_, by simp [e3, hxl, Nat.add_mul], rfl, Nat.lt_succ_self _⟩)
        · rw [push_old (by rw [set_size]; exact hj), set_other (by simpa using hjB)]
        · exact push_new (h := h.set n (.dead k))

theorem src_rd {S : Nat → Prop} {k : Nat} {ds : List D} {x : Value} (g : Rd h S (.arr k ds) [x]) : ∃ xs, srcC k h x = some (ds.length, xs) ∧ Rds h S ds xs ∧ xs.length = ds.length * k := by
  simp only [Rd] at g
  obtain ⟨hw, ⟨rfl, e⟩ | ⟨n, o, c, opn, rw, cap, e1, e2, e3, e4, e5⟩⟩ := g
  · simp only [List.cons.injEq, and_true] at e
    subst e
    exact ⟨[], rfl, by simp [Rds], by simp⟩
  · simp only [List.cons.injEq, and_true] at e1
    subst e1
    refine ⟨(c.drop o).take (ds.length * k), ?_, e5, by simp; omega⟩
    simp [srcC, e3, cellsAt, e4]
theorem src_one {k m : Nat} {xs : List Value} {p q : Bool} (e : h.at_ m = .cells xs k p q) (hl : xs.length = k) : srcC k h (.slice (some ⟨m, 0, none⟩) 1 1) = some (1, xs) := by
  simp [srcC, e, cellsAt, ← hl]
end
end Go.Proofs.Ytdfmdclfnhgjiaa.Can
