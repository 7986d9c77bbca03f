/- Draw regions: what holds while they run, in whatever order.
   Conditions: checked by drawOk. -/
import Derived.Test.YtdfmdclfnhgjiaaCanL
set_option linter.unusedVariables false
set_option linter.unusedSimpArgs false
namespace Go.Proofs.Ytdfmdclfnhgjiaa.Can
open Go

def Map.cut (κ : Map) (s : Nat) : Map := fun x => if x < s then κ x else none
theorem Map.cut_some {κ : Map} {s x : Nat} {i : Info} (h : κ.cut s x = some i) : x < s ∧ κ x = some i := by
  unfold Map.cut at h
  split at h
  · exact ⟨by assumption, h⟩
  · cases h
theorem Map.cut_of {κ : Map} {s x : Nat} {i : Info} (hs : x < s) (h : κ x = some i) : κ.cut s x = some i := by
  unfold Map.cut; rw [if_pos hs]; exact h
theorem Map.cut_le (κ : Map) (s : Nat) : (κ.cut s).le κ := fun x i h => (Map.cut_some h).2
theorem Map.cut_mono {κ μ : Map} (h : κ.le μ) {s t : Nat} (hst : s ≤ t) : (κ.cut s).le (μ.cut t) := fun x i e =>
  let ⟨h1, h2⟩ := Map.cut_some e
  Map.cut_of (Nat.lt_of_lt_of_le h1 hst) (h x i h2)

def rkGo (hs : Nat → CH) (x : Nat) : Nat → Nat
  | 0 => 0
  | k + 1 => if (hs k).size ≤ x then k + 1 else rkGo hs x k

section
variable {hs : Nat → CH} {n : Nat}

theorem rkGo_spec (hm : ∀ p q, p ≤ q → q ≤ n → (hs p).size ≤ (hs q).size) (x : Nat) : ∀ k, k ≤ n + 1 → rkGo hs x k ≤ k ∧ ∀ j, j < k → ((hs j).size ≤ x ↔ j < rkGo hs x k) := by
  intro k
  induction k with
  | zero => intro _; exact ⟨Nat.le_refl _, fun j hj => by omega⟩
  | succ k ih =>
    intro hk
    obtain ⟨h1, h2⟩ := ih (by omega)
    unfold rkGo
    by_cases hx : (hs k).size ≤ x
    · rw [if_pos hx]
      exact ⟨Nat.le_refl _, fun j hj => ⟨fun _ => hj, fun _ => Nat.le_trans (hm j k (by omega) (by omega)) hx⟩⟩
    · rw [if_neg hx]
      refine ⟨by omega, fun j hj => ?_⟩
      by_cases hjk : j = k
      · subst hjk; exact ⟨fun q => absurd q hx, fun q => by omega⟩
      · exact h2 j (by omega)

def rk (hs : Nat → CH) (n x : Nat) : Nat := rkGo hs x (n + 1)
theorem rk_le (hm : ∀ p q, p ≤ q → q ≤ n → (hs p).size ≤ (hs q).size) {x r : Nat} (hr : r ≤ n) : rk hs n x ≤ r ↔ x < (hs r).size := by
  have := (rkGo_spec hm x (n + 1) (Nat.le_refl _)).2 r (by omega)
  unfold rk
  omega
end

/-- What is known of a region's account. -/
structure RF (P : Program) (N : Nat) (ops : Array Oper) (o : Nat → Nat) (M : Nat → Option MI) (n : Nat) (bf : Nat → Nat → Bool) (dl : List (MI × List MI)) (ρs : Nat → Nat → Value) (hs : Nat → CH) (vs : Nat → Value) : Prop where
  d : DF P N ops o M n bf
  tr : Tr P dl ρs hs vs
  dl : ∀ p mi, M p = some mi → ∃ re, dl[p]? = some (mi, re) ∧ ∀ p' a, p' < p → bf p' p = false → M p' = some a → kind a.sh = .read → kind mi.sh = .eff → a ∈ re
  out : ∀ t, N ≤ t → ρs 0 t = undef

section
variable {P : Program} {N : Nat} {ops : Array Oper} {o : Nat → Nat} {M : Nat → Option MI} {n : Nat} {bf : Nat → Nat → Bool} {dl : List (MI × List MI)} {ρs : Nat → Nat → Value} {hs : Nat → CH} {vs : Nat → Value}

theorem RF.mi (f : RF P N ops o M n bf dl ρs hs vs) {p : Nat} (hp : p < n) : ∃ mi re, M p = some mi ∧ dl[p]? = some (mi, re) := by
  obtain ⟨oi, mi, h1, h2, h3⟩ := f.d.comp p hp
  obtain ⟨re, h4, _⟩ := f.dl p mi h2
  exact ⟨mi, re, h2, h4⟩

theorem RF.size1 (f : RF P N ops o M n bf dl ρs hs vs) {p : Nat} (hp : p < n) : (hs p).size ≤ (hs (p + 1)).size := by
  obtain ⟨mi, re, h1, h2⟩ := f.mi hp
  cases ho : onB mi (ρs p) with
  | true => exact Step.size (f.tr.on p mi re h2 ho)
  | false => rw [(f.tr.off p mi re h2 ho).2]; exact Nat.le_refl _

theorem RF.size (f : RF P N ops o M n bf dl ρs hs vs) : ∀ p q, p ≤ q → q ≤ n → (hs p).size ≤ (hs q).size := by
  intro p q hpq hq
  induction q with
  | zero => have : p = 0 := by omega
            subst this; exact Nat.le_refl _
  | succ q ih =>
    by_cases e : p = q + 1
    · subst e; exact Nat.le_refl _
    · exact Nat.le_trans (ih (by omega) (by omega)) (f.size1 (by omega))

theorem RF.keep1 (f : RF P N ops o M n bf dl ρs hs vs) {p : Nat} (hp : p < n) {mi : MI} (hm : M p = some mi) (hk : kind mi.sh ≠ .eff) {x : Nat} (hx : x < (hs p).size) : (hs (p + 1)).at_ x = (hs p).at_ x := by
  obtain ⟨re, h2, _⟩ := f.dl p mi hm
  cases ho : onB mi (ρs p) with
  | true =>
    have s := f.tr.on p mi re h2 ho
    unfold Step at s
    cases hk' : kind mi.sh <;> rw [hk'] at s
    · rw [s.2]
    · rw [s.2]
    · obtain ⟨co, g, _, _, e⟩ := s
      rw [e]
      simp only [CH.push]
      rw [if_neg (by omega)]
    · exact absurd hk' hk
  | false => rw [(f.tr.off p mi re h2 ho).2]

/-- No writing operation between two places. -/
def calm (M : Nat → Option MI) (p q : Nat) : Prop := ∀ r mi, p ≤ r → r < q → M r = some mi → kind mi.sh ≠ .eff

theorem RF.keep (f : RF P N ops o M n bf dl ρs hs vs) {p : Nat} {x : Nat} (hx : x < (hs p).size) : ∀ q, p ≤ q → q ≤ n → calm M p q → (hs q).at_ x = (hs p).at_ x := by
  intro q hpq hq hc
  induction q with
  | zero => have : p = 0 := by omega
            subst this; rfl
  | succ q ih =>
    by_cases e : p = q + 1
    · subst e; rfl
    · obtain ⟨mi, re, h1, h2⟩ := f.mi (show q < n by omega)
      rw [f.keep1 (by omega) h1 (hc q mi (by omega) (by omega) h1) (Nat.lt_of_lt_of_le hx (f.size p q (by omega) (by omega)))]
      exact ih (by omega) (by omega) (fun r mi h1 h2 => hc r mi h1 (by omega))

theorem RF.slot (f : RF P N ops o M n bf dl ρs hs vs) {p : Nat} (hp : p < n) {mi : MI} (hm : M p = some mi) : ρs (p + 1) = upd (ρs p) mi.dst (vs p) := by
  obtain ⟨re, h2, _⟩ := f.dl p mi hm
  exact f.tr.slot p mi re h2

theorem RF.slot_keep (f : RF P N ops o M n bf dl ρs hs vs) {p t : Nat} : ∀ q, p ≤ q → q ≤ n → (∀ r mi, p ≤ r → r < q → M r = some mi → mi.dst ≠ some t) → ρs q t = ρs p t := by
  intro q hpq hq hc
  induction q with
  | zero => have : p = 0 := by omega
            subst this; rfl
  | succ q ih =>
    by_cases e : p = q + 1
    · subst e; rfl
    · obtain ⟨mi, re, h1, h2⟩ := f.mi (show q < n by omega)
      rw [f.slot (by omega) h1]
      have hne := hc q mi (by omega) (by omega) h1
      have : upd (ρs q) mi.dst (vs q) t = ρs q t := by
        cases hd : mi.dst with
        | some d =>
          have : t ≠ d := fun e => hne (by rw [hd, e])
          simp [upd, this]
        | none => rfl
      rw [this]
      exact ih (by omega) (by omega) (fun r mi h1 h2 => hc r mi h1 (by omega))

theorem RF.out' (f : RF P N ops o M n bf dl ρs hs vs) {p t : Nat} (hp : p ≤ n) (ht : N ≤ t) : ρs p t = undef := by
  rw [f.slot_keep (p := 0) p (Nat.zero_le _) hp (fun r mi _ hr hm e => ?_)]
  · exact f.out t ht
  · obtain ⟨oi, mi', h1, h2, h3⟩ := f.d.comp r (by omega)
    rw [hm] at h2; cases h2
    obtain ⟨_, _, c3, c4, _⟩ := compOp_some h3
    rw [← c4, e] at c3
    simp [dstOk] at c3
    omega

/-- The heap's side. -/
structure Hp (M : Nat → Option MI) (o : Nat → Nat) (n : Nat) (hs : Nat → CH) (ι : Map) (w0 : World) (l : Nat → Bool) (κ : Map) (q : Nat) (w : World) : Prop where
  qn : q ≤ n
  qe : q = 0 ∨ ∃ p mi, q = p + 1 ∧ p < n ∧ M p = some mi ∧ kind mi.sh = .eff
  stage : ∀ p mi, p < n → M p = some mi → kind mi.sh = .eff → (l (o p) = true ↔ p < q)
  le : ι.le κ
  who : ∀ x i, κ x = some i → ι x = some i ∨ ∃ p, p < n ∧ l (o p) = true ∧ (hs p).size ≤ x ∧ x < (hs (p + 1)).size
  obj : ∀ x i, κ x = some i → OR (κ.cut (hs (max q (rk hs n x))).size) i w ((hs (max q (rk hs n x))).at_ x)
  sep : ∀ x y i j, x ≠ y → κ x = some i → κ y = some j → ((hs (max q (rk hs n x))).at_ x).own = true → ((hs (max q (rk hs n y))).at_ y).live = true → i.blk ≠ j.blk
  dom : ∀ x i, κ x = some i → x < (hs n).size
  idom : ∀ x i, ι x = some i → x < (hs 0).size
  lt : ∀ x i, κ x = some i → i.blk < w.heap.size
  late : ∀ x i, κ x = some i → (∃ p, q ≤ p ∧ p < n ∧ l (o p) = true ∧ (hs p).size ≤ x ∧ x < (hs (p + 1)).size) → ∀ y j, y ≠ x → κ y = some j → j.blk ≠ i.blk
  fsize : w0.heap.size ≤ w.heap.size
  fblock : ∀ b, b < w0.heap.size → ¬ owned ι (hs 0) b → w.heap[b]? = w0.heap[b]?
  fown : ∀ x i, κ x = some i → ((hs (max q (rk hs n x))).at_ x).own = true → i.blk < w0.heap.size → owned ι (hs 0) i.blk
  fblk : ∀ x i, ι x = none → κ x = some i → w0.heap.size ≤ i.blk ∨ owned ι (hs 0) i.blk
  os : w.os = w0.os
  tape : w.tape = w0.tape
  output : w.output = w0.output

theorem max_l {a b : Nat} (h : b ≤ a) : max a b = a := Nat.max_eq_left h
theorem max_r {a b : Nat} (h : a ≤ b) : max a b = b := Nat.max_eq_right h

/-- Out of it: the account's heap at place p tells of the machine's. -/
theorem Hp.at (f : RF P N ops o M n bf dl ρs hs vs) {ι κ : Map} {w0 w : World} {l : Nat → Bool} {q p : Nat} (g : Hp M o n hs ι w0 l κ q w) (hp : p ≤ n) (hqp : q ≤ p) (hc : calm M q p) : HR (κ.cut (hs p).size) (hs p) w := by
  have hm := f.size
  have same : ∀ x, x < (hs p).size → max q (rk hs n x) ≤ p ∧ (hs p).at_ x = (hs (max q (rk hs n x))).at_ x := by
    intro x hx
    have h1 := (rk_le (n := n) hm hp).2 hx
    have h2 : max q (rk hs n x) ≤ p := Nat.max_le.2 ⟨hqp, h1⟩
    refine ⟨h2, f.keep ?_ p h2 hp (fun r mi hr1 hr2 => hc r mi (Nat.le_trans (Nat.le_max_left _ _) hr1) hr2)⟩
    exact (rk_le (n := n) hm (by omega)).1 (Nat.le_max_right _ _)
  refine ⟨fun x i e => ?_, fun x y i j hne ex ey ho hl => ?_, fun x i e => (Map.cut_some e).1, fun x i e => g.lt x i (Map.cut_some e).2⟩
  · obtain ⟨hx, e⟩ := Map.cut_some e
    obtain ⟨h1, h2⟩ := same x hx
    rw [h2]
    exact (g.obj x i e).mono (Map.cut_mono κ.le_refl (hm _ _ h1 hp)) (fun _ => rfl)
  · obtain ⟨hx, ex⟩ := Map.cut_some ex
    obtain ⟨hy, ey⟩ := Map.cut_some ey
    rw [(same x hx).2] at ho
    rw [(same y hy).2] at hl
    exact g.sep x y i j hne ex ey ho hl

/-- A value whose addresses lie below s. -/
def clo (s : Nat) (v : Value) : Prop := ∃ (κ : Map) (v' : Value), VR κ v v' ∧ ∀ x i, κ x = some i → x < s

theorem VR.cut {κ κ2 : Map} {s : Nat} {v v' : Value} (h : VR κ v v') : ∀ {v2 : Value}, VR κ2 v v2 → (∀ x i, κ2 x = some i → x < s) → VR (κ.cut s) v v' := by
  induction h with
  | base v hb => intro v2 _ _; exact .base v hb
  | ptr a i h1 h2 =>
    intro v2 g hd
    obtain ⟨j, e, _, _⟩ := g.ptr_inv
    exact .ptr a i (Map.cut_of (hd _ _ e) h1) h2
  | slice a a' i len cap cap' h1 h2 h3 h4 h5 h6 h7 =>
    intro v2 g hd
    obtain ⟨j, _, _, e, _⟩ := g.slice_inv
    exact .slice a a' i len cap cap' (Map.cut_of (hd _ _ e) h1) h2 h3 h4 h5 h6 h7
  | map r i h1 =>
    intro v2 g hd
    cases g with
    | base _ hb => simp [Can.base] at hb
    | map _ j e => exact .map r i (Map.cut_of (hd _ _ e) h1)
  | func fn x x' y y' h1 h2 _ _ i1 i2 =>
    intro v2 g hd
    cases g with
    | base _ hb => simp [Can.base] at hb
    | func _ _ x2 _ y2 g1 g2 g3 g4 =>
      refine .func fn x x' y y' h1 h2 (fun j u u' e e' => ?_) (fun j u u' e e' => ?_)
      · obtain ⟨u2, e2, r2⟩ := VA.get ⟨g1, g3⟩ e
        exact i1 j u u' e e' r2 hd
      · obtain ⟨u2, e2, r2⟩ := VA.get ⟨g2, g4⟩ e
        exact i2 j u u' e e' r2 hd
  | iface t v v' _ i1 =>
    intro v2 g hd
    cases g with
    | base _ hb => simp [Can.base] at hb
    | iface _ _ _ g1 => exact .iface t v v' (i1 g1 hd)
  | agg x x' h1 _ i1 =>
    intro v2 g hd
    obtain ⟨x2, _, g1⟩ := g.agg_inv
    refine .agg x x' h1 (fun j u u' e e' => ?_)
    obtain ⟨u2, e2, r2⟩ := g1.get e
    exact i1 j u u' e e' r2 hd
  | tuple x x' h1 _ i1 =>
    intro v2 g hd
    obtain ⟨x2, _, g1⟩ := g.tuple_inv
    refine .tuple x x' h1 (fun j u u' e e' => ?_)
    obtain ⟨u2, e2, r2⟩ := g1.get e
    exact i1 j u u' e e' r2 hd

theorem VR.clo {κ : Map} {s : Nat} {v v' : Value} (h : VR κ v v') (hc : Can.clo s v) : VR (κ.cut s) v v' := by
  obtain ⟨κ2, v2, h2, hd⟩ := hc
  exact h.cut h2 hd

/-! ### Steps of the heap's side -/

section steps
variable {ι κ : Map} {w0 w w' : World} {l : Nat → Bool} {q p : Nat}

theorem upb_self (l : Nat → Bool) (i : Nat) : upb l i i = true := by simp [upb]
theorem upb_of {l : Nat → Bool} {i j : Nat} (h : l j = true) : upb l i j = true := by
  unfold upb; split <;> first | rfl | exact h
theorem upb_inv {l : Nat → Bool} {i j : Nat} (h : upb l i j = true) : j = i ∨ l j = true := by
  unfold upb at h; split at h
  · exact .inl (by assumption)
  · exact .inr h

/-- An operation that leaves the heap alone. -/
theorem Hp.still (f : RF P N ops o M n bf dl ρs hs vs) (g : Hp M o n hs ι w0 l κ q w) (hp : p < n) {mi : MI} (hm : M p = some mi) (hk : kind mi.sh ≠ .eff) (he : hs (p + 1) = hs p) : Hp M o n hs ι w0 (upb l (o p)) κ q w := by
  refine { g with stage := ?_, who := ?_, late := ?_ }
  · intro r mr hr hmr hkr
    have hne : o r ≠ o p := fun e => by
      have := f.d.inj r p hr hp e
      subst this; rw [hm] at hmr; cases hmr; exact hk hkr
    rw [← g.stage r mr hr hmr hkr]
    unfold upb; rw [if_neg hne]
  · intro x i e
    rcases g.who x i e with h | ⟨r, h1, h2, h3⟩
    · exact .inl h
    · exact .inr ⟨r, h1, upb_of h2, h3⟩
  · intro x i e ⟨r, h1, h2, h3, h4, h5⟩
    rcases upb_inv h3 with h | h
    · have := f.d.inj r p h2 hp h
      subst this
      rw [he] at h5
      omega
    · exact g.late x i e ⟨r, h1, h2, h, h4, h5⟩

/-- Whose number lies in the part of place p. -/
theorem Hp.mid (f : RF P N ops o M n bf dl ρs hs vs) (g : Hp M o n hs ι w0 l κ q w) (hp : p < n) (hl : l (o p) = false) {x : Nat} {i : Info} (e : κ x = some i) : x < (hs p).size ∨ ((hs (p + 1)).size ≤ x ∧ ∃ r, p + 1 ≤ r ∧ r < n ∧ l (o r) = true ∧ (hs r).size ≤ x ∧ x < (hs (r + 1)).size) := by
  have hm := f.size
  rcases g.who x i e with h | ⟨r, h1, h2, h3, h4⟩
  · exact .inl (Nat.lt_of_lt_of_le (g.idom x i h) (hm 0 p (Nat.zero_le _) (by omega)))
  · by_cases hrp : r < p
    · exact .inl (Nat.lt_of_lt_of_le h4 (hm (r + 1) p (by omega) (by omega)))
    · have hne : r ≠ p := fun q => by subst q; rw [hl] at h2; cases h2
      refine .inr ⟨Nat.le_trans (hm (p + 1) r (by omega) (by omega)) h3, r, by omega, h1, h2, h3, h4⟩

theorem Hp.new (f : RF P N ops o M n bf dl ρs hs vs) (g : Hp M o n hs ι w0 l κ q w) (hp : p < n) (hl : l (o p) = false) (hqp : q ≤ p) {mi : MI} (hm : M p = some mi) (hk : kind mi.sh ≠ .eff) {co : CO} (he : hs (p + 1) = (hs p).push co) {i : Info} {O : Obj}
    (hw : w'.heap = w.heap.push O) (hi : i.blk = w.heap.size) (h1 : w'.os = w.os) (h2 : w'.tape = w.tape) (h3 : w'.output = w.output) (hO : ∀ w2 : World, w2.heap[w.heap.size]? = some O → OR ((κ.cut (hs p).size).put (hs p).size i) i w2 co) :
    Hp M o n hs ι w0 (upb l (o p)) (κ.put (hs p).size i) q w' ∧ κ.le (κ.put (hs p).size i) := by
  have hsz := f.size
  have hnone : κ (hs p).size = none := by
    cases e : κ (hs p).size with
    | none => rfl
    | some j =>
      rcases g.mid f hp hl e with h | ⟨h, _⟩
      · omega
      · rw [he] at h; simp [CH.push] at h; omega
  have hle : κ.le (κ.put (hs p).size i) := Map.le_put hnone
  have hsz1 : (hs (p + 1)).size = (hs p).size + 1 := by rw [he]; rfl
  have hrk : rk hs n (hs p).size = p + 1 := by
    have a1 := (rk_le (n := n) (x := (hs p).size) hsz (show p + 1 ≤ n by omega)).2 (by omega)
    have a2 : ¬ rk hs n (hs p).size ≤ p := fun q => by have := (rk_le (n := n) hsz (show p ≤ n by omega)).1 q; omega
    omega
  have hmx : max q (rk hs n (hs p).size) = p + 1 := by rw [hrk]; exact max_r (by omega)
  have hat : (hs (p + 1)).at_ (hs p).size = co := by rw [he]; simp [CH.push]
  have hlt' : ∀ x j, κ x = some j → j.blk < w.heap.size := g.lt
  refine ⟨{ qn := g.qn, qe := g.qe, stage := ?_, le := Map.le_trans g.le hle, who := ?_, obj := ?_, sep := ?_, dom := ?_, idom := g.idom, lt := ?_, late := ?_, fsize := ?_, fblock := ?_, fown := ?_, fblk := ?_, os := h1.trans g.os, tape := h2.trans g.tape, output := h3.trans g.output }, hle⟩
  · intro r mr hr hmr hkr
    have hne : o r ≠ o p := fun e => by
      have := f.d.inj r p hr hp e
      subst this; rw [hm] at hmr; cases hmr; exact hk hkr
    rw [← g.stage r mr hr hmr hkr]
    unfold upb; rw [if_neg hne]
  · intro x j e
    by_cases hx : x = (hs p).size
    · subst hx; exact .inr ⟨p, hp, upb_self _ _, Nat.le_refl _, by omega⟩
    · rw [Map.put_ne _ _ hx] at e
      rcases g.who x j e with h | ⟨r, r1, r2, r3⟩
      · exact .inl h
      · exact .inr ⟨r, r1, upb_of r2, r3⟩
  · intro x j e
    by_cases hx : x = (hs p).size
    · subst hx
      rw [Map.put_self] at e; cases e
      rw [hmx, hat]
      refine (hO w' (by rw [hw]; simp)).mono (fun y k ey => ?_) (fun _ => rfl)
      by_cases hy : y = (hs p).size
      · subst hy
        rw [Map.put_self] at ey; cases ey
        exact Map.cut_of (by omega) (Map.put_self _ _ _)
      · rw [Map.put_ne _ _ hy] at ey
        obtain ⟨c1, c2⟩ := Map.cut_some ey
        exact Map.cut_of (by omega) (hle y k c2)
    · rw [Map.put_ne _ _ hx] at e
      refine (g.obj x j e).mono (Map.cut_mono hle (Nat.le_refl _)) (fun _ => ?_)
      have := hlt' x j e
      rw [hw, Array.getElem?_push, if_neg (by omega)]
  · intro x y j k hne ex ey ho hl2
    by_cases hx : x = (hs p).size
    · subst hx
      rw [Map.put_self] at ex; cases ex
      rw [Map.put_ne _ _ (Ne.symm hne)] at ey
      have := hlt' y k ey
      omega
    · rw [Map.put_ne _ _ hx] at ex
      by_cases hy : y = (hs p).size
      · subst hy
        rw [Map.put_self] at ey; cases ey
        have := hlt' x j ex
        omega
      · rw [Map.put_ne _ _ hy] at ey
        exact g.sep x y j k hne ex ey ho hl2
  · intro x j e
    by_cases hx : x = (hs p).size
    · subst hx
      have := hsz (p + 1) n (by omega) (Nat.le_refl _)
      omega
    · rw [Map.put_ne _ _ hx] at e; exact g.dom x j e
  · intro x j e
    rw [hw, Array.size_push]
    by_cases hx : x = (hs p).size
    · subst hx; rw [Map.put_self] at e; cases e; omega
    · rw [Map.put_ne _ _ hx] at e; have := hlt' x j e; omega
  · intro x j e ⟨r, r1, r2, r3, r4, r5⟩ y k hne ey
    by_cases hx : x = (hs p).size
    · subst hx
      rw [Map.put_self] at e; cases e
      rw [Map.put_ne _ _ hne] at ey
      have := hlt' y k ey
      omega
    · rw [Map.put_ne _ _ hx] at e
      by_cases hy : y = (hs p).size
      · subst hy
        rw [Map.put_self] at ey; cases ey
        have := hlt' x j e
        omega
      · rw [Map.put_ne _ _ hy] at ey
        rcases upb_inv r3 with h | h
        · have := f.d.inj r p r2 hp h
          subst this
          omega
        · exact g.late x j e ⟨r, r1, r2, h, r4, r5⟩ y k hne ey
  · rw [hw, Array.size_push]; have := g.fsize; omega
  · intro b hb hno
    rw [← g.fblock b hb hno, hw, Array.getElem?_push, if_neg (by have := g.fsize; omega)]
  · intro x j e ho hb
    by_cases hx : x = (hs p).size
    · subst hx; rw [Map.put_self] at e; cases e; have := g.fsize; omega
    · rw [Map.put_ne _ _ hx] at e; exact g.fown x j e ho hb
  · intro x j e1 e
    by_cases hx : x = (hs p).size
    · subst hx; rw [Map.put_self] at e; cases e; have := g.fsize; exact .inl (by omega)
    · rw [Map.put_ne _ _ hx] at e; exact g.fblk x j e1 e

/-- Two maps in one; the first goes first. -/
def Map.over (μ κ : Map) : Map := fun x => match μ x with
  | some i => some i
  | none => κ x
theorem Map.over_l {μ κ : Map} {x : Nat} {i : Info} (h : μ x = some i) : μ.over κ x = some i := by unfold Map.over; rw [h]
theorem Map.over_r {μ κ : Map} {x : Nat} (h : μ x = none) : μ.over κ x = κ x := by unfold Map.over; rw [h]

theorem Hp.eff (f : RF P N ops o M n bf dl ρs hs vs) (g : Hp M o n hs ι w0 l κ q w) (hp : p < n) (hl : l (o p) = false) (hqp : q ≤ p) (hcalm : calm M q p) {mi : MI} (hm : M p = some mi) (hk : kind mi.sh = .eff) (hready : ∀ r, r < n → bf r p = true → l (o r) = true)
    {v v' : Value} (hpost : Post (κ.cut (hs p).size) (hs p) w v (hs (p + 1)) v' w') :
    ∃ κ', Hp M o n hs ι w0 (upb l (o p)) κ' (p + 1) w' ∧ κ.le κ' ∧ VR (κ'.cut (hs (p + 1)).size) v v' := by
  obtain ⟨μ, hv, hR, hF⟩ := hpost
  have hsz := f.size
  have h01 : (hs p).size ≤ (hs (p + 1)).size := f.size1 hp
  -- numbers of the old map: below, or late
  have old : ∀ x i, κ x = some i → (x < (hs p).size ∧ μ x = some i) ∨ ((hs (p + 1)).size ≤ x ∧ μ x = none ∧ ∀ y j, y ≠ x → κ y = some j → j.blk ≠ i.blk) := by
    intro x i e
    rcases g.mid f hp hl e with h | ⟨h, r, r1, r2, r3, r4, r5⟩
    · exact .inl ⟨h, hF.le x i (Map.cut_of h e)⟩
    · refine .inr ⟨h, ?_, g.late x i e ⟨r, by omega, r2, r3, r4, r5⟩⟩
      cases em : μ x with
      | none => rfl
      | some j => have := hR.dom x j em; omega
  have hle : κ.le (μ.over κ) := by
    intro x i e
    rcases old x i e with ⟨_, h⟩ | ⟨_, h, _⟩
    · exact Map.over_l h
    · rw [Map.over_r h]; exact e
  have hmu : μ.le ((μ.over κ).cut (hs (p + 1)).size) := fun x i e => Map.cut_of (hR.dom x i e) (Map.over_l e)
  -- what the new map says
  have cases2 : ∀ x i, μ.over κ x = some i → (μ x = some i ∧ x < (hs (p + 1)).size) ∨ (μ x = none ∧ κ x = some i ∧ (hs (p + 1)).size ≤ x ∧ ∀ y j, y ≠ x → κ y = some j → j.blk ≠ i.blk) := by
    intro x i e
    cases em : μ x with
    | some j => rw [Map.over_l em] at e; cases e; exact .inl ⟨rfl, hR.dom x _ em⟩
    | none =>
      rw [Map.over_r em] at e
      rcases old x i e with ⟨_, h⟩ | ⟨h1, _, h3⟩
      · rw [em] at h; cases h
      · exact .inr ⟨rfl, e, h1, h3⟩
  have mx1 : ∀ x, x < (hs (p + 1)).size → max (p + 1) (rk hs n x) = p + 1 := fun x hx => max_l ((rk_le (n := n) hsz (show p + 1 ≤ n by omega)).2 hx)
  have mx2 : ∀ x, (hs (p + 1)).size ≤ x → max (p + 1) (rk hs n x) = rk hs n x ∧ max q (rk hs n x) = rk hs n x := by
    intro x hx
    have : ¬ rk hs n x ≤ p + 1 := fun z => by have := (rk_le (n := n) hsz (show p + 1 ≤ n by omega)).1 z; omega
    exact ⟨max_r (by omega), max_r (by omega)⟩
  have atp : ∀ x, x < (hs p).size → (hs p).at_ x = (hs (max q (rk hs n x))).at_ x := by
    intro x hx
    have h1 := (rk_le (n := n) hsz (show p ≤ n by omega)).2 hx
    have h2 : max q (rk hs n x) ≤ p := Nat.max_le.2 ⟨hqp, h1⟩
    exact f.keep ((rk_le (n := n) hsz (by omega)).1 (Nat.le_max_right _ _)) p h2 (by omega) (fun r mi hr1 hr2 => hcalm r mi (Nat.le_trans (Nat.le_max_left _ _) hr1) hr2)
  -- an owned block of the account's heap at p
  have ownp : ∀ b, owned (κ.cut (hs p).size) (hs p) b → ∃ y j, y < (hs p).size ∧ κ y = some j ∧ j.blk = b ∧ ((hs (max q (rk hs n y))).at_ y).own = true := by
    rintro b ⟨y, j, e, h1, h2⟩
    obtain ⟨c1, c2⟩ := Map.cut_some e
    exact ⟨y, j, c1, c2, h2, by rw [← atp y c1]; exact h1⟩
  -- a number of the new part against a late one
  have apart : ∀ x i, μ x = some i → ∀ y j, μ y = none → κ y = some j → (hs (p + 1)).size ≤ y → (∀ z k, z ≠ y → κ z = some k → k.blk ≠ j.blk) → i.blk ≠ j.blk := by
    intro x i ex y j ey1 ey hy hz
    cases ec : (κ.cut (hs p).size) x with
    | some k =>
      obtain ⟨c1, c2⟩ := Map.cut_some ec
      have : μ x = some k := hF.le x k ec
      rw [ex] at this; cases this
      exact hz x i (by omega) c2
    | none =>
      rcases hF.blk x i ec ex with h | h
      · have := g.lt y j ey; omega
      · obtain ⟨z, k, z1, z2, z3, _⟩ := ownp _ h
        rw [← z3]
        exact hz z k (by omega) z2
  refine ⟨μ.over κ, { qn := by omega, qe := .inr ⟨p, mi, rfl, hp, hm, hk⟩, stage := ?_, le := Map.le_trans g.le hle, who := ?_, obj := ?_, sep := ?_, dom := ?_, idom := g.idom, lt := ?_, late := ?_, fsize := Nat.le_trans g.fsize hF.size, fblock := ?_, fown := ?_, fblk := ?_, os := hF.os.trans g.os, tape := hF.tape.trans g.tape, output := hF.output.trans g.output }, hle, hv.mono hmu⟩
  · intro r mr hr hmr hkr
    by_cases hrp : r = p
    · subst hrp; rw [upb_self]; simp
    · have hne : o r ≠ o p := fun e => hrp (f.d.inj r p hr hp e)
      have : upb l (o p) (o r) = l (o r) := by unfold upb; rw [if_neg hne]
      rw [this, g.stage r mr hr hmr hkr]
      constructor
      · intro h; omega
      · intro h
        have hlt : r < p := by omega
        have hb : bf r p = true := by
          cases hb : bf r p with
          | true => rfl
          | false => exact absurd ⟨hkr, hk⟩ (f.d.pair r p mr mi hlt hp hb hmr hm).1
        exact (g.stage r mr hr hmr hkr).1 (hready r hr hb)
  · intro x i e
    rcases cases2 x i e with ⟨h1, h2⟩ | ⟨_, h2, _, _⟩
    · cases ec : (κ.cut (hs p).size) x with
      | some k =>
        obtain ⟨c1, c2⟩ := Map.cut_some ec
        have : μ x = some k := hF.le x k ec
        rw [h1] at this; cases this
        rcases g.who x i c2 with h | ⟨r, r1, r2, r3⟩
        · exact .inl h
        · exact .inr ⟨r, r1, upb_of r2, r3⟩
      | none =>
        exact .inr ⟨p, hp, upb_self _ _, hF.new x ec (by rw [h1]; simp), h2⟩
    · rcases g.who x i h2 with h | ⟨r, r1, r2, r3⟩
      · exact .inl h
      · exact .inr ⟨r, r1, upb_of r2, r3⟩
  · intro x i e
    rcases cases2 x i e with ⟨h1, h2⟩ | ⟨h1, h2, h3, h4⟩
    · rw [mx1 x h2]
      exact (hR.obj x i h1).mono hmu (fun _ => rfl)
    · rw [(mx2 x h3).1]
      have := g.obj x i h2
      rw [(mx2 x h3).2] at this
      refine this.mono (Map.cut_mono hle (Nat.le_refl _)) (fun _ => ?_)
      refine hF.block _ (g.lt x i h2) (fun ho => ?_)
      obtain ⟨z, k, z1, z2, z3, _⟩ := ownp _ ho
      exact h4 z k (by omega) z2 z3
  · intro x y i j hne ex ey ho hlv
    rcases cases2 x i ex with ⟨x1, x2⟩ | ⟨x1, x2, x3, x4⟩
    · rcases cases2 y j ey with ⟨y1, y2⟩ | ⟨y1, y2, y3, y4⟩
      · rw [mx1 x x2] at ho
        rw [mx1 y y2] at hlv
        exact hR.sep x y i j hne x1 y1 ho hlv
      · exact apart x i x1 y j y1 y2 y3 y4
    · rcases cases2 y j ey with ⟨y1, y2⟩ | ⟨y1, y2, y3, y4⟩
      · exact Ne.symm (apart y j y1 x i x1 x2 x3 x4)
      · exact y4 x i hne x2
  · intro x i e
    rcases cases2 x i e with ⟨h1, h2⟩ | ⟨h1, h2, h3, h4⟩
    · exact Nat.lt_of_lt_of_le h2 (hsz _ n (by omega) (Nat.le_refl _))
    · exact g.dom x i h2
  · intro x i e
    rcases cases2 x i e with ⟨h1, h2⟩ | ⟨h1, h2, h3, h4⟩
    · exact hR.lt x i h1
    · exact Nat.lt_of_lt_of_le (g.lt x i h2) hF.size
  · intro x i e ⟨r, r1, r2, r3, r4, r5⟩ y j hne ey
    have hx : (hs (p + 1)).size ≤ x := Nat.le_trans (hsz _ r r1 (by omega)) r4
    rcases cases2 x i e with ⟨h1, h2⟩ | ⟨h1, h2, h3, h4⟩
    · omega
    · rcases cases2 y j ey with ⟨y1, y2⟩ | ⟨y1, y2, y3, y4⟩
      · exact apart y j y1 x i h1 h2 h3 h4
      · exact h4 y j hne y2
  · intro b hb hno
    rw [← g.fblock b hb hno]
    refine hF.block b (Nat.lt_of_lt_of_le hb g.fsize) (fun ho => ?_)
    obtain ⟨z, k, z1, z2, z3, z4⟩ := ownp _ ho
    have := g.fown z k z2 z4 (by omega)
    rw [z3] at this
    exact hno this
  · intro x i e ho hb
    rcases cases2 x i e with ⟨h1, h2⟩ | ⟨h1, h2, h3, h4⟩
    · rw [mx1 x h2] at ho
      obtain ⟨z, k, z1, z2, z3, z4⟩ := ownp _ (hF.own i.blk (Nat.lt_of_lt_of_le hb g.fsize) ⟨x, i, h1, ho, rfl⟩)
      have := g.fown z k z2 z4 (by omega)
      rw [z3] at this
      exact this
    · rw [(mx2 x h3).1] at ho
      exact g.fown x i h2 (by rw [(mx2 x h3).2]; exact ho) hb
  · intro x i e1 e
    rcases cases2 x i e with ⟨h1, h2⟩ | ⟨h1, h2, h3, h4⟩
    · cases ec : (κ.cut (hs p).size) x with
      | some k =>
        obtain ⟨c1, c2⟩ := Map.cut_some ec
        have : μ x = some k := hF.le x k ec
        rw [h1] at this; cases this
        exact g.fblk x i e1 c2
      | none =>
        rcases hF.blk x i ec h1 with h | h
        · exact .inl (Nat.le_trans g.fsize h)
        · obtain ⟨z, k, z1, z2, z3, z4⟩ := ownp _ h
          by_cases hb : i.blk < w0.heap.size
          · have := g.fown z k z2 z4 (by omega)
            rw [z3] at this
            exact .inr this
          · exact .inl (Nat.le_of_not_lt hb)
    · exact g.fblk x i e1 h2

end steps
end
end Go.Proofs.Ytdfmdclfnhgjiaa.Can
