/- Trees of data in the second heap: what may be read, what is owned, and what stays.
   Conditions: none; definitions and their plain laws. -/
import Derived.Test.YtdfmdclfnhgjiaaCanW
set_option linter.unusedVariables false
set_option linter.unusedSimpArgs false
namespace Go.Proofs.Ytdfmdclfnhgjiaa.Can
open Go

/-- A value without an address, a struct, or a slice of elements of k cells. -/
inductive D where
  | val (x : Value)
  | str (ds : List D)
  | arr (k : Nat) (ds : List D)

mutual
def wid : D → Nat
  | .val _ => 1
  | .str ds => wids ds
  | .arr _ _ => 1
def wids : List D → Nat
  | [] => 0
  | d :: ds => wid d + wids ds
end

def one (x : Value) : Bool := base x && x.oneCell'

mutual
/-- It may be read, and all its blocks are among these. -/
def Rd (h : CH) (S : Nat → Prop) : D → List Value → Prop
  | .val x, cs => cs = [x] ∧ one x = true
  | .str ds, cs => Rds h S ds cs
  | .arr k ds, cs => (∀ d ∈ ds, wid d = k) ∧ ((ds = [] ∧ cs = [.slice none 0 0]) ∨ ∃ n o c opn rw cap, cs = [.slice (some ⟨n, o, none⟩) ds.length cap] ∧ S n ∧ h.at_ n = .cells c k opn rw ∧ o + ds.length * k ≤ c.length ∧ Rds h S ds ((c.drop o).take (ds.length * k)))
def Rds (h : CH) (S : Nat → Prop) : List D → List Value → Prop
  | [], cs => cs = []
  | d :: ds, cs => ∃ c1 c2, cs = c1 ++ c2 ∧ Rd h S d c1 ∧ Rds h S ds c2
end

mutual
/-- It is owned: no block of it is in it twice. -/
def Own (h : CH) : D → List Value → List Nat → Prop
  | .val x, cs, F => cs = [x] ∧ one x = true ∧ F = []
  | .str ds, cs, F => Owns h ds cs F
  | .arr k ds, cs, F => (∀ d ∈ ds, wid d = k) ∧ ((ds = [] ∧ cs = [.slice none 0 0] ∧ F = []) ∨ ∃ n c opn cap G, cs = [.slice (some ⟨n, 0, none⟩) ds.length cap] ∧ F = n :: G ∧ n ∉ G ∧ h.at_ n = .cells c k opn true ∧ c.length = cap * k ∧ ds.length * k ≤ c.length ∧ Owns h ds (c.take (ds.length * k)) G)
def Owns (h : CH) : List D → List Value → List Nat → Prop
  | [], cs, F => cs = [] ∧ F = []
  | d :: ds, cs, F => ∃ c1 c2 F1 F2, cs = c1 ++ c2 ∧ F = F1 ++ F2 ∧ (∀ n ∈ F1, n ∉ F2) ∧ Own h d c1 F1 ∧ Owns h ds c2 F2
end

mutual
theorem Rd.len {h : CH} {S : Nat → Prop} : ∀ {d : D} {cs : List Value}, Rd h S d cs → cs.length = wid d
  | .val x, cs, g => by simp only [Rd] at g; simp [g.1, wid]
  | .str ds, cs, g => by simp only [Rd] at g; simp only [wid]; exact Rds.len g
  | .arr k ds, cs, g => by
    simp only [Rd] at g
    rcases g.2 with ⟨_, rfl⟩ | ⟨n, o, c, opn, rw, cap, rfl, _⟩ <;> simp [wid]
theorem Rds.len {h : CH} {S : Nat → Prop} : ∀ {ds : List D} {cs : List Value}, Rds h S ds cs → cs.length = wids ds
  | [], cs, g => by simp only [Rds] at g; simp [g, wids]
  | d :: ds, cs, g => by
    simp only [Rds] at g
    obtain ⟨c1, c2, rfl, g1, g2⟩ := g
    simp [wids, Rd.len g1, Rds.len g2]
end
mutual
theorem Rd.keep {h h' : CH} {S : Nat → Prop} (hk : ∀ n, S n → h'.at_ n = h.at_ n) : ∀ {d : D} {cs : List Value}, Rd h S d cs → Rd h' S d cs
  | .val x, cs, g => by simp only [Rd] at g ⊢; exact g
  | .str ds, cs, g => by simp only [Rd] at g ⊢; exact Rds.keep hk g
  | .arr k ds, cs, g => by
    simp only [Rd] at g ⊢
    refine ⟨g.1, ?_⟩
    rcases g.2 with e | ⟨n, o, c, opn, rw, cap, e1, e2, e3, e4, e5⟩
    · exact .inl e
    · exact .inr ⟨n, o, c, opn, rw, cap, e1, e2, (hk n e2).trans e3, e4, Rds.keep hk e5⟩
theorem Rds.keep {h h' : CH} {S : Nat → Prop} (hk : ∀ n, S n → h'.at_ n = h.at_ n) : ∀ {ds : List D} {cs : List Value}, Rds h S ds cs → Rds h' S ds cs
  | [], cs, g => by simp only [Rds] at g ⊢; exact g
  | d :: ds, cs, g => by
    simp only [Rds] at g ⊢
    obtain ⟨c1, c2, e, g1, g2⟩ := g
    exact ⟨c1, c2, e, Rd.keep hk g1, Rds.keep hk g2⟩
end
mutual
theorem Rd.wide {h : CH} {S T : Nat → Prop} (hs : ∀ n, S n → T n) : ∀ {d : D} {cs : List Value}, Rd h S d cs → Rd h T d cs
  | .val x, cs, g => by simp only [Rd] at g ⊢; exact g
  | .str ds, cs, g => by simp only [Rd] at g ⊢; exact Rds.wide hs g
  | .arr k ds, cs, g => by
    simp only [Rd] at g ⊢
    refine ⟨g.1, ?_⟩
    rcases g.2 with e | ⟨n, o, c, opn, rw, cap, e1, e2, e3, e4, e5⟩
    · exact .inl e
    · exact .inr ⟨n, o, c, opn, rw, cap, e1, hs n e2, e3, e4, Rds.wide hs e5⟩
theorem Rds.wide {h : CH} {S T : Nat → Prop} (hs : ∀ n, S n → T n) : ∀ {ds : List D} {cs : List Value}, Rds h S ds cs → Rds h T ds cs
  | [], cs, g => by simp only [Rds] at g ⊢; exact g
  | d :: ds, cs, g => by
    simp only [Rds] at g ⊢
    obtain ⟨c1, c2, e, g1, g2⟩ := g
    exact ⟨c1, c2, e, Rd.wide hs g1, Rds.wide hs g2⟩
end
mutual
theorem Own.rd {h : CH} : ∀ {d : D} {cs : List Value} {F : List Nat}, Own h d cs F → Rd h (· ∈ F) d cs
  | .val x, cs, F, g => by simp only [Own] at g; simp only [Rd]; exact ⟨g.1, g.2.1⟩
  | .str ds, cs, F, g => by simp only [Own] at g; simp only [Rd]; exact Owns.rd g
  | .arr k ds, cs, F, g => by
    simp only [Own] at g
    simp only [Rd]
    refine ⟨g.1, ?_⟩
    rcases g.2 with ⟨e1, e2, _⟩ | ⟨n, c, opn, cap, G, e1, rfl, e2, e3, e4, e5, e6⟩
    · exact .inl ⟨e1, e2⟩
    · exact .inr ⟨n, 0, c, opn, true, cap, e1, List.mem_cons_self, e3, by omega, Rds.wide (fun m hm => List.mem_cons_of_mem _ hm) (by simpa using Owns.rd e6)⟩
theorem Owns.rd {h : CH} : ∀ {ds : List D} {cs : List Value} {F : List Nat}, Owns h ds cs F → Rds h (· ∈ F) ds cs
  | [], cs, F, g => by simp only [Owns] at g; simp only [Rds]; exact g.1
  | d :: ds, cs, F, g => by
    simp only [Owns] at g
    simp only [Rds]
    obtain ⟨c1, c2, F1, F2, e, rfl, _, g1, g2⟩ := g
    exact ⟨c1, c2, e, Rd.wide (fun m hm => List.mem_append_left _ hm) (Own.rd g1), Rds.wide (fun m hm => List.mem_append_right _ hm) (Owns.rd g2)⟩
end
mutual
theorem Own.keep {h h' : CH} : ∀ {d : D} {cs : List Value} {F : List Nat}, (∀ n ∈ F, h'.at_ n = h.at_ n) → Own h d cs F → Own h' d cs F
  | .val x, cs, F, hk, g => by simp only [Own] at g ⊢; exact g
  | .str ds, cs, F, hk, g => by simp only [Own] at g ⊢; exact Owns.keep hk g
  | .arr k ds, cs, F, hk, g => by
    simp only [Own] at g ⊢
    refine ⟨g.1, ?_⟩
    rcases g.2 with e | ⟨n, c, opn, cap, G, e1, rfl, e2, e3, e4, e5, e6⟩
    · exact .inl e
    · exact .inr ⟨n, c, opn, cap, G, e1, rfl, e2, (hk n List.mem_cons_self).trans e3, e4, e5, Owns.keep (fun m hm => hk m (List.mem_cons_of_mem _ hm)) e6⟩
theorem Owns.keep {h h' : CH} : ∀ {ds : List D} {cs : List Value} {F : List Nat}, (∀ n ∈ F, h'.at_ n = h.at_ n) → Owns h ds cs F → Owns h' ds cs F
  | [], cs, F, hk, g => by simp only [Owns] at g ⊢; exact g
  | d :: ds, cs, F, hk, g => by
    simp only [Owns] at g ⊢
    obtain ⟨c1, c2, F1, F2, e, rfl, e2, g1, g2⟩ := g
    exact ⟨c1, c2, F1, F2, e, rfl, e2, Own.keep (fun m hm => hk m (List.mem_append_left _ hm)) g1, Owns.keep (fun m hm => hk m (List.mem_append_right _ hm)) g2⟩
end

mutual
theorem Rd.ones {h : CH} {S : Nat → Prop} : ∀ {d : D} {cs : List Value}, Rd h S d cs → cs.all (·.oneCell') = true
  | .val x, cs, g => by simp only [Rd, one, Bool.and_eq_true] at g; simp [g.1, g.2.2]
  | .str ds, cs, g => by simp only [Rd] at g; exact Rds.ones g
  | .arr k ds, cs, g => by
    simp only [Rd] at g
    rcases g.2 with ⟨_, rfl⟩ | ⟨n, o, c, opn, rw, cap, rfl, _⟩ <;> rfl
theorem Rds.ones {h : CH} {S : Nat → Prop} : ∀ {ds : List D} {cs : List Value}, Rds h S ds cs → cs.all (·.oneCell') = true
  | [], cs, g => by simp only [Rds] at g; simp [g]
  | d :: ds, cs, g => by
    simp only [Rds] at g
    obtain ⟨c1, c2, rfl, g1, g2⟩ := g
    rw [List.all_append, Rd.ones g1, Rds.ones g2]; rfl
end

/-- What was stays; more may have come. -/
structure Ext (h h' : CH) : Prop where
  size : h.size ≤ h'.size
  old : ∀ n, n < h.size → h'.at_ n = h.at_ n
theorem Ext.refl (h : CH) : Ext h h := ⟨Nat.le_refl _, fun _ _ => rfl⟩
theorem Ext.trans {a b c : CH} (x : Ext a b) (y : Ext b c) : Ext a c :=
  ⟨Nat.le_trans x.size y.size, fun n hn => (y.old n (Nat.lt_of_lt_of_le hn x.size)).trans (x.old n hn)⟩
theorem Ext.push (h : CH) (o : CO) : Ext h (h.push o) := ⟨Nat.le_succ _, fun n hn => push_old hn⟩

theorem Rd.ext {h h' : CH} {S : Nat → Prop} {d : D} {cs : List Value} (g : Rd h S d cs) (hS : ∀ n, S n → n < h.size) (e : Ext h h') : Rd h' S d cs := g.keep fun n hn => e.old n (hS n hn)
theorem Ext.lt {h h' : CH} {S : Nat → Prop} (e : Ext h h') (hS : ∀ n, S n → n < h.size) : ∀ n, S n → n < h'.size := fun n hn => Nat.lt_of_lt_of_le (hS n hn) e.size
theorem Ext.new {h h' : CH} {o : CO} (e : Ext (h.push o) h') : h'.at_ h.size = o := (e.old _ (Nat.lt_succ_self _)).trans push_new

theorem Rds.get {h : CH} {S : Nat → Prop} {k : Nat} : ∀ {ds : List D} {cs : List Value} {i : Nat} {d : D}, Rds h S ds cs → (∀ d ∈ ds, wid d = k) → ds[i]? = some d → Rd h S d ((cs.drop (i * k)).take k)
  | [], _, _, _, _, _, e => by simp at e
  | x :: ds, cs, i, d, g, hw, e => by
    simp only [Rds] at g
    obtain ⟨c1, c2, rfl, g1, g2⟩ := g
    have hl : c1.length = k := g1.len.trans (hw x List.mem_cons_self)
    cases i with
    | zero =>
      simp only [List.getElem?_cons_zero, Option.some.injEq] at e
      subst e
      simpa [← hl] using g1
    | succ i =>
      have := Rds.get (k := k) g2 (fun d hd => hw d (List.mem_cons_of_mem _ hd)) (by simpa using e)
      have e2 : (c1 ++ c2).drop ((i + 1) * k) = c2.drop (i * k) := by
        rw [Nat.succ_mul, Nat.add_comm, ← List.drop_drop, ← hl]; simp
      rw [e2]; exact this

/-- An element of a slice that may be read. -/
theorem Rds.elem {h : CH} {S : Nat → Prop} {k o : Nat} {c : List Value} {ds : List D} {i : Nat} {d : D} (g : Rds h S ds ((c.drop o).take (ds.length * k))) (hw : ∀ d ∈ ds, wid d = k) (e : ds[i]? = some d) :
    Rd h S d ((c.drop (o + i * k)).take k) := by
  have hi : i < ds.length := (List.getElem?_eq_some_iff.1 e).1
  have := g.get hw e
  rw [List.drop_take, List.drop_drop, List.take_take] at this
  have h2 : k ≤ ds.length * k - i * k := by
    rw [← Nat.sub_mul]
    exact Nat.le_mul_of_pos_left k (by omega)
  rw [Nat.min_eq_left h2] at this
  exact this

theorem Rd.val_cell {h : CH} {S : Nat → Prop} {x : Value} {c : List Value} {o : Nat} (g : Rd h S (.val x) ((c.drop o).take 1)) : c[o]? = some x := by
  simp only [Rd] at g
  have : ((c.drop o).take 1)[0]? = some x := by rw [g.1]; rfl
  simpa [List.getElem?_take] using this

theorem Owns.snoc {h : CH} {d : D} {c : List Value} {G : List Nat} (g2 : Own h d c G) : ∀ {ds : List D} {cs : List Value} {F : List Nat}, Owns h ds cs F → (∀ n ∈ F, n ∉ G) → Owns h (ds ++ [d]) (cs ++ c) (F ++ G)
  | [], cs, F, g, hd => by
    simp only [Owns] at g
    obtain ⟨rfl, rfl⟩ := g
    simp only [List.nil_append, Owns]
    exact ⟨c, [], G, [], by simp, by simp, by simp, g2, rfl, rfl⟩
  | x :: ds, cs, F, g, hd => by
    simp only [Owns] at g
    obtain ⟨c1, c2, F1, F2, rfl, rfl, e2, q1, q2⟩ := g
    simp only [List.cons_append, Owns]
    refine ⟨c1, c2 ++ c, F1, F2 ++ G, by simp, by simp, ?_, q1, Owns.snoc g2 q2 (fun n hn => hd n (List.mem_append_right _ hn))⟩
    intro n hn hm
    rcases List.mem_append.1 hm with hm | hm
    · exact e2 n hn hm
    · exact hd n (List.mem_append_left _ hn) hm
theorem Owns.vals {h : CH} : ∀ {xs : List Value}, xs.all one = true → Owns h (xs.map .val) xs []
  | [], _ => by simp [Owns]
  | x :: xs, g => by
    simp only [List.all_cons, Bool.and_eq_true] at g
    simp only [List.map_cons, Owns]
    exact ⟨[x], xs, [], [], rfl, rfl, by simp, by simp [Own, g.1], Owns.vals g.2⟩
theorem Rds.vals {h : CH} {S : Nat → Prop} : ∀ {xs : List Value} {cs : List Value}, Rds h S (xs.map .val) cs → cs = xs
  | [], cs, g => by simpa [Rds] using g
  | x :: xs, cs, g => by
    simp only [List.map_cons, Rds, Rd] at g
    obtain ⟨c1, c2, rfl, ⟨rfl, _⟩, g2⟩ := g
    rw [Rds.vals g2]; rfl

theorem setAt_take {c xs : List Value} {i k : Nat} (hx : xs.length = k) (hr : i * k + k ≤ c.length) : (setAt c (i * k) xs).take ((i + 1) * k) = c.take (i * k) ++ xs := by
  have h1 : (c.take (i * k) ++ xs).length = (i + 1) * k := by simp [hx, Nat.succ_mul]; omega
  rw [setAt, List.take_append_of_le_length (by omega), ← h1, List.take_length]
theorem setAt_len {c xs : List Value} {o : Nat} (hr : o + xs.length ≤ c.length) : (setAt c o xs).length = c.length := by
  simp [setAt]; omega

theorem Ext.set {h h1 : CH} (e : Ext h h1) {n : Nat} {o : CO} (hn : h.size ≤ n) : Ext h (h1.set n o) := ⟨e.size, fun m hm => (set_other (by omega)).trans (e.old m hm)⟩

/-- New numbers. -/
def Fresh (h h' : CH) (F : List Nat) : Prop := ∀ n ∈ F, h.size ≤ n ∧ n < h'.size
theorem Fresh.wide {a b c d : CH} {F : List Nat} (g : Fresh b c F) (h1 : a.size ≤ b.size) (h2 : c.size ≤ d.size) : Fresh a d F := fun n hn => ⟨Nat.le_trans h1 (g n hn).1, Nat.lt_of_lt_of_le (g n hn).2 h2⟩
theorem Own.ext {h h' : CH} {d : D} {cs : List Value} {F : List Nat} (g : Own h d cs F) (hF : ∀ n ∈ F, n < h.size) (e : Ext h h') : Own h' d cs F := g.keep fun n hn => e.old n (hF n hn)
theorem Own.len {h : CH} {d : D} {cs : List Value} {F : List Nat} (g : Own h d cs F) : cs.length = wid d := g.rd.len

end Go.Proofs.Ytdfmdclfnhgjiaa.Can
