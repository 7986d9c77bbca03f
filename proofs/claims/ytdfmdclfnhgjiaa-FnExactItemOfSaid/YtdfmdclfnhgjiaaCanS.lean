/- What a function owns while it runs, as a list of things; what stays of all else.
   Conditions: those that each rule names. -/
import Derived.Test.YtdfmdclfnhgjiaaCanU
set_option linter.unusedVariables false
set_option linter.unusedSimpArgs false
namespace Go.Proofs.Ytdfmdclfnhgjiaa.Can
open Go

mutual
theorem Own.nodup {h : CH} : ∀ {d : D} {cs : List Value} {F : List Nat}, Own h d cs F → F.Nodup
  | .val x, cs, F, g => by simp only [Own] at g; simp [g.2.2]
  | .str ds, cs, F, g => by simp only [Own] at g; exact Owns.nodup g
  | .arr k ds, cs, F, g => by
    simp only [Own] at g
    rcases g.2 with ⟨_, _, rfl⟩ | ⟨n, c, opn, cap, G, e1, rfl, e2, e3, e4, e5, e6⟩
    · exact List.nodup_nil
    · exact List.nodup_cons.2 ⟨e2, Owns.nodup e6⟩
theorem Owns.nodup {h : CH} : ∀ {ds : List D} {cs : List Value} {F : List Nat}, Owns h ds cs F → F.Nodup
  | [], cs, F, g => by simp only [Owns] at g; simp [g.2]
  | d :: ds, cs, F, g => by
    simp only [Owns] at g
    obtain ⟨c1, c2, F1, F2, e, rfl, e2, g1, g2⟩ := g
    exact List.nodup_append.2 ⟨Own.nodup g1, Owns.nodup g2, fun a ha b hb e => e2 a ha (e ▸ hb)⟩
end

/-- A block of its own; a tree; a block whose cells hold a tree. -/
inductive It where
  | bx (n : Nat) (cs : List Value) (k : Nat) (p : Bool)
  | ow (d : D) (cs : List Value) (F : List Nat)
  | rc (n : Nat) (k : Nat) (p : Bool) (d : D) (cs : List Value) (F : List Nat)

def It.foot : It → List Nat
  | .bx n _ _ _ => [n]
  | .ow _ _ F => F
  | .rc n _ _ _ _ F => n :: F
def It.ok (h : CH) : It → Prop
  | .bx n cs k p => h.at_ n = .cells cs k p true
  | .ow d cs F => Own h d cs F
  | .rc n k p d cs F => h.at_ n = .cells cs k p true ∧ Own h d cs F
theorem It.keep {h h' : CH} : ∀ {it : It}, (∀ n ∈ it.foot, h'.at_ n = h.at_ n) → it.ok h → it.ok h'
  | .bx n cs k p, hk, g => (hk n (List.mem_singleton.2 rfl)).trans g
  | .ow d cs F, hk, g => Own.keep hk g
  | .rc n k p d cs F, hk, g => ⟨(hk n List.mem_cons_self).trans g.1, Own.keep (fun m hm => hk m (List.mem_cons_of_mem _ hm)) g.2⟩

def okAll (h : CH) : List It → Prop
  | [] => True
  | x :: r => x.ok h ∧ okAll h r
def feet : List It → List Nat
  | [] => []
  | x :: r => x.foot ++ feet r
theorem okAll_iff {h : CH} : ∀ {T : List It}, okAll h T ↔ ∀ x ∈ T, x.ok h
  | [] => by simp [okAll]
  | x :: r => by simp [okAll, okAll_iff (T := r)]
theorem feet_append : ∀ {A B : List It}, feet (A ++ B) = feet A ++ feet B
  | [], B => rfl
  | x :: A, B => by simp only [List.cons_append, feet, feet_append (A := A), List.append_assoc]
theorem feet_mem {T : List It} {n : Nat} : n ∈ feet T ↔ ∃ x ∈ T, n ∈ x.foot := by
  induction T with
  | nil => simp [feet]
  | cons x r ih => simp only [feet, List.mem_append, List.mem_cons, ih]; constructor
                   · rintro (h | ⟨y, hy, hn⟩)
                     · exact ⟨x, .inl rfl, h⟩
                     · exact ⟨y, .inr hy, hn⟩
                   · rintro ⟨y, rfl | hy, hn⟩
                     · exact .inl hn
                     · exact .inr ⟨y, hy, hn⟩
theorem feet_perm {A B : List It} (p : A.Perm B) : (feet A).Perm (feet B) := by
  induction p with
  | nil => exact .refl _
  | cons x _ ih => exact .append_left _ ih
  | swap x y l => simp only [feet, ← List.append_assoc]; exact .append_right _ List.perm_append_comm
  | trans _ _ a b => exact a.trans b

/-- From h0 on: of what was there, all but Z is as it was; T is owned, and lies in Z or is new. -/
structure St (h0 : CH) (Z : List Nat) (T : List It) (h : CH) : Prop where
  size : h0.size ≤ h.size
  keep : ∀ m, m < h0.size → m ∉ Z → h.at_ m = h0.at_ m
  ok : okAll h T
  nd : (feet T).Nodup
  rng : ∀ n ∈ feet T, (n ∈ Z ∨ h0.size ≤ n) ∧ n < h.size

/-- These may be read; nothing of Z is among them. -/
def Safe (S : Nat → Prop) (h : CH) (Z : List Nat) : Prop := ∀ n, S n → n < h.size ∧ n ∉ Z

section
variable {h0 h h' : CH} {Z Z1 : List Nat} {T T1 R : List It} {S : Nat → Prop}

theorem St.start (hz : okAll h T) (hn : (feet T).Nodup) (hl : ∀ n ∈ feet T, n < h.size) : St h (feet T) T h :=
  ⟨Nat.le_refl _, fun _ _ _ => rfl, hz, hn, fun n hn => ⟨.inl hn, hl n hn⟩⟩
theorem St.nil (h : CH) : St h [] [] h := ⟨Nat.le_refl _, fun _ _ _ => rfl, trivial, List.nodup_nil, fun _ hn => by cases hn⟩
theorem St.perm (K : St h0 Z T h) {T' : List It} (p : T.Perm T') : St h0 Z T' h :=
  ⟨K.size, K.keep, okAll_iff.2 fun x hx => okAll_iff.1 K.ok x (p.mem_iff.2 hx), (feet_perm p).nodup_iff.1 K.nd, fun n hn => K.rng n ((feet_perm p).mem_iff.2 hn)⟩
theorem St.drop (K : St h0 Z (T ++ R) h) : St h0 Z R h :=
  ⟨K.size, K.keep, okAll_iff.2 fun x hx => okAll_iff.1 K.ok x (List.mem_append_right _ hx), by have := K.nd; rw [feet_append] at this; exact (List.nodup_append.1 this).2.1, fun n hn => K.rng n (by rw [feet_append]; exact List.mem_append_right _ hn)⟩
theorem St.sub (K : St h0 Z T h) {T' : List It} (p : T'.Sublist T) : St h0 Z T' h := by
  have pf : ∀ {A B : List It}, A.Sublist B → (feet A).Sublist (feet B) := by
    intro A B p
    induction p with
    | slnil => exact .slnil
    | cons x _ ih => exact ih.trans (List.sublist_append_right _ _)
    | cons_cons x _ ih => exact (List.Sublist.refl _).append ih
  exact ⟨K.size, K.keep, okAll_iff.2 fun x hx => okAll_iff.1 K.ok x (p.subset hx), (pf p).nodup K.nd, fun n hn => K.rng n ((pf p).subset hn)⟩

/-- A step of a part of what is owned. -/
theorem St.frame (K : St h0 Z (T ++ R) h) (J : St h (feet T) T1 h') : St h0 Z (T1 ++ R) h' := by
  have nd := K.nd
  rw [feet_append] at nd
  obtain ⟨n1, n2, n3⟩ := List.nodup_append.1 nd
  have hR : ∀ n ∈ feet R, n < h.size ∧ n ∉ feet T ∧ h'.at_ n = h.at_ n := fun n hn => by
    have a := (K.rng n (by rw [feet_append]; exact List.mem_append_right _ hn)).2
    have b : n ∉ feet T := fun hm => n3 n hm n hn rfl
    exact ⟨a, b, J.keep n a b⟩
  refine ⟨Nat.le_trans K.size J.size, fun m hm hz => ?_, ?_, ?_, ?_⟩
  · have hl : m < h.size := Nat.lt_of_lt_of_le hm K.size
    rw [J.keep m hl fun hf => ?_, K.keep m hm hz]
    rcases (K.rng m (by rw [feet_append]; exact List.mem_append_left _ hf)).1 with e | e
    · exact hz e
    · omega
  · refine okAll_iff.2 fun x hx => ?_
    rcases List.mem_append.1 hx with hx | hx
    · exact okAll_iff.1 J.ok x hx
    · exact It.keep (fun n hn => (hR n (feet_mem.2 ⟨x, hx, hn⟩)).2.2) (okAll_iff.1 K.ok x (List.mem_append_right _ hx))
  · rw [feet_append]
    refine List.nodup_append.2 ⟨J.nd, n2, fun a ha b hb e => ?_⟩
    subst e
    obtain ⟨q1, q2, _⟩ := hR a hb
    rcases (J.rng a ha).1 with e | e
    · exact q2 e
    · omega
  · intro n hn
    rw [feet_append] at hn
    rcases List.mem_append.1 hn with hn | hn
    · refine ⟨?_, (J.rng n hn).2⟩
      rcases (J.rng n hn).1 with e | e
      · exact (K.rng n (by rw [feet_append]; exact List.mem_append_left _ e)).1
      · exact .inr (Nat.le_trans K.size e)
    · refine ⟨(K.rng n (by rw [feet_append]; exact List.mem_append_right _ hn)).1, Nat.lt_of_lt_of_le (hR n hn).1 J.size⟩

/-- A step that touches nothing of what is owned. -/
theorem St.go (K : St h0 Z T h) (J : St h [] T1 h') : St h0 Z (T ++ T1) h' :=
  (St.frame (T := []) (R := T) (T1 := T1) K J).perm List.perm_append_comm
theorem St.go0 (K : St h0 Z T h) (J : St h [] [] h') : St h0 Z T h' := by simpa using K.go J
theorem pick_perm {i : Nat} {it : It} (e : T[i]? = some it) : T.Perm (it :: T.eraseIdx i) := by
  obtain ⟨hi, rfl⟩ := List.getElem?_eq_some_iff.1 e
  rw [List.eraseIdx_eq_take_drop_succ]
  conv => lhs; rw [← List.take_append_drop i T, List.drop_eq_getElem_cons hi]
  exact List.perm_middle
theorem set_perm {i : Nat} {it x : It} (e : T[i]? = some it) : (T.set i x).Perm (x :: T.eraseIdx i) := by
  obtain ⟨hi, rfl⟩ := List.getElem?_eq_some_iff.1 e
  have h1 : (T.set i x)[i]? = some x := by simp [hi]
  have := pick_perm h1
  rwa [List.eraseIdx_set_eq] at this
/-- A step of one thing. -/
theorem St.at (K : St h0 Z T h) {i : Nat} {it it' : It} (e : T[i]? = some it) (J : St h it.foot [it'] h') : St h0 Z (T.set i it') h' := by
  refine St.perm ?_ (set_perm e).symm
  refine St.frame (T := [it]) (T1 := [it']) (K.perm (pick_perm e)) ?_
  simpa [feet] using J
/-- A step of one thing, by which more comes. -/
theorem St.atMore (K : St h0 Z T h) {i : Nat} {it it' : It} (e : T[i]? = some it) (J : St h it.foot (it' :: T1) h') : St h0 Z (T.set i it' ++ T1) h' := by
  refine St.perm (T := (it' :: T1) ++ T.eraseIdx i) ?_ ?_
  · refine St.frame (T := [it]) (K.perm (pick_perm e)) ?_
    simpa [feet] using J
  · refine List.Perm.trans ?_ (List.Perm.append_right _ (set_perm e).symm)
    simp only [List.cons_append]
    exact .cons _ List.perm_append_comm
/-- One thing goes. -/
theorem St.gone (K : St h0 Z T h) {i : Nat} {it : It} (e : T[i]? = some it) (J : St h it.foot [] h') : St h0 Z (T.eraseIdx i) h' :=
  St.frame (T := [it]) (T1 := []) (K.perm (pick_perm e)) (by simpa [feet] using J)

theorem St.it (K : St h0 Z T h) {i : Nat} {it : It} (e : T[i]? = some it) : it.ok h := okAll_iff.1 K.ok it (List.mem_of_getElem? e)
theorem St.foot (K : St h0 Z T h) {i : Nat} {it : It} (e : T[i]? = some it) : ∀ n ∈ it.foot, (n ∈ Z ∨ h0.size ≤ n) ∧ n < h.size := fun n hn => K.rng n (feet_mem.2 ⟨it, List.mem_of_getElem? e, hn⟩)
theorem St.ow (K : St h0 Z T h) {d : D} {cs : List Value} {F : List Nat} (i : Nat) (e : T[i]? = some (.ow d cs F)) : Own h d cs F := K.it e
theorem St.bx (K : St h0 Z T h) {n k : Nat} {cs : List Value} {p : Bool} (i : Nat) (e : T[i]? = some (.bx n cs k p)) : h.at_ n = .cells cs k p true := K.it e
theorem St.rcAt (K : St h0 Z T h) {n k : Nat} {p : Bool} {d : D} {cs : List Value} {F : List Nat} (i : Nat) (e : T[i]? = some (.rc n k p d cs F)) : h.at_ n = .cells cs k p true := (K.it e).1
theorem St.rcOwn (K : St h0 Z T h) {n k : Nat} {p : Bool} {d : D} {cs : List Value} {F : List Nat} (i : Nat) (e : T[i]? = some (.rc n k p d cs F)) : Own h d cs F := (K.it e).2
theorem St.lt (K : St h0 Z T h) {it : It} (i : Nat) (e : T[i]? = some it) : ∀ n ∈ it.foot, n < h.size := fun n hn => (K.foot e n hn).2
/-- What is owned may be read. -/
theorem St.mine (K : St h0 Z T h) {d : D} {cs : List Value} {F : List Nat} (i : Nat) (e : T[i]? = some (.ow d cs F)) : Rd h (· ∈ F) d cs ∧ Safe (· ∈ F) h [] :=
  ⟨(K.ow i e).rd, fun n hn => ⟨K.lt i e n hn, by simp⟩⟩

/-- What came in may be read still. -/
theorem St.rd (K : St h0 Z T h) {d : D} {cs : List Value} (hs : Rd h0 S d cs) (hS : Safe S h0 Z) : Rd h S d cs := hs.keep fun n hn => K.keep n (hS n hn).1 (hS n hn).2
theorem St.rds (K : St h0 Z T h) {d : List D} {cs : List Value} (hs : Rds h0 S d cs) (hS : Safe S h0 Z) : Rds h S d cs := hs.keep fun n hn => K.keep n (hS n hn).1 (hS n hn).2
theorem St.safe (K : St h0 Z T h) (hS : Safe S h0 Z) : Safe S h Z := fun n hn => ⟨Nat.lt_of_lt_of_le (hS n hn).1 K.size, (hS n hn).2⟩
theorem St.safe0 (K : St h0 Z T h) (hS : Safe S h0 Z) : Safe S h [] := fun n hn => ⟨Nat.lt_of_lt_of_le (hS n hn).1 K.size, by simp⟩
theorem St.safeAt (K : St h0 Z T h) (hS : Safe S h0 Z) {it : It} (i : Nat) (e : T[i]? = some it) : Safe S h it.foot := fun n hn => ⟨Nat.lt_of_lt_of_le (hS n hn).1 K.size, fun hm => by
  rcases (K.foot e n hm).1 with q | q
  · exact (hS n hn).2 q
  · have := (hS n hn).1; omega⟩
theorem Safe.lt {Z : List Nat} (hS : Safe S h Z) : ∀ n, S n → n < h.size := fun n hn => (hS n hn).1
theorem Safe.of (hS : ∀ n, S n → n < h.size) : Safe S h [] := fun n hn => ⟨hS n hn, by simp⟩

/-! ### From the elder words -/
theorem Ext.st (e : Ext h h') : St h [] [] h' := ⟨e.size, fun m hm _ => e.old m hm, trivial, List.nodup_nil, fun _ hn => by cases hn⟩
theorem St.ext (K : St h0 [] T h) : Ext h0 h := ⟨K.size, fun m hm => K.keep m hm (by simp)⟩
theorem Ext.stOwn (e : Ext h h') {d : D} {cs : List Value} {F : List Nat} (o : Own h' d cs F) (f : Fresh h h' F) : St h [] [.ow d cs F] h' :=
  ⟨e.size, fun m hm _ => e.old m hm, ⟨o, trivial⟩, by simpa [feet, It.foot] using o.nodup, fun n hn => by
    simp only [feet, It.foot, List.append_nil] at hn
    exact ⟨.inr (f n hn).1, (f n hn).2⟩⟩
theorem St.fresh (K : St h0 [] T h) {i : Nat} {it : It} (e : T[i]? = some it) : Fresh h0 h it.foot := fun n hn => by
  have := K.foot e n hn
  simpa using this

/-! ### Blocks -/
theorem St.push (o : CO) : St h [] [] (h.push o) := (Ext.push h o).st
/-- A block for a while, of which nothing is kept. -/
theorem St.tmp (K : St h0 Z T h) (o : CO) : St h0 Z T (h.push o) := K.go0 (St.push o)
theorem St.pushBx {cs : List Value} {k : Nat} {p : Bool} : St h [] [.bx h.size cs k p] (h.push (.cells cs k p true)) :=
  ⟨Nat.le_succ _, fun m hm _ => push_old hm, ⟨push_new, trivial⟩, by simp [feet, It.foot], fun n hn => by
    simp only [feet, It.foot, List.append_nil, List.mem_singleton] at hn
    subst hn
    exact ⟨.inr (Nat.le_refl _), Nat.lt_succ_self _⟩⟩
theorem St.box (K : St h0 Z T h) {cs : List Value} {k : Nat} {p : Bool} : St h0 Z (T ++ [.bx h.size cs k p]) (h.push (.cells cs k p true)) := K.go St.pushBx
theorem St.set (K : St h0 Z T h) {n k : Nat} {cs cs' : List Value} {p : Bool} (i : Nat) (e : T[i]? = some (.bx n cs k p)) : St h0 Z (T.set i (.bx n cs' k p)) (h.set n (.cells cs' k p true)) := by
  refine K.at e ⟨Nat.le_refl _, fun m hm hz => set_other (by simpa [It.foot] using hz), ⟨set_same, trivial⟩, by simp [feet, It.foot], fun m hm => ?_⟩
  simp only [feet, It.foot, List.append_nil, List.mem_singleton] at hm
  subst hm
  exact ⟨.inl (by simp [It.foot]), K.lt i e _ (by simp [It.foot])⟩
/-- A box that holds a tree. -/
theorem St.join (K : St h0 Z T h) {n k : Nat} {cs : List Value} {p : Bool} {d : D} {F : List Nat} (i j : Nat) (e : T[i]? = some (.bx n cs k p)) (o : (T.eraseIdx i)[j]? = some (.ow d cs F)) : St h0 Z (.rc n k p d cs F :: (T.eraseIdx i).eraseIdx j) h := by
  have K2 := (K.perm (pick_perm e)).perm (List.Perm.cons _ (pick_perm o))
  have nd := K2.nd
  refine ⟨K2.size, K2.keep, ⟨⟨K2.ok.1, K2.ok.2.1⟩, K2.ok.2.2⟩, ?_, ?_⟩
  · simpa [feet, It.foot] using nd
  · intro m hm
    refine K2.rng m ?_
    simpa [feet, It.foot] using hm
theorem St.more (K : St h0 Z T h) {it : It} (hok : it.ok h) (hf : it.foot = []) : St h0 Z (T ++ [it]) h :=
  K.go ⟨Nat.le_refl _, fun _ _ _ => rfl, ⟨hok, trivial⟩, by simp [feet, hf], fun n hn => by simp [feet, hf] at hn⟩

end
end Go.Proofs.Ytdfmdclfnhgjiaa.Can
