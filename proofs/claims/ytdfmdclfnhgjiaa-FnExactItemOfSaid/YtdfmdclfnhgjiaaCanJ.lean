/- A region whose order Go leaves open: whatever order comes up, each operation finds what it waits for done.
   Conditions: its edges make no ring (checked by a list of ranks). -/
import Derived.Test.YtdfmdclfnhgjiaaCanG
set_option linter.unusedVariables false
set_option linter.unusedSimpArgs false
namespace Go.Proofs.Ytdfmdclfnhgjiaa.Can
open Go

def upb (l : Nat → Bool) (i : Nat) : Nat → Bool := fun j => if j = i then true else l j

theorem go_acc (m : Region.Mode) (ops : Array Oper) : ∀ (fuel t : Nat) (listed : Array Bool) (acc : List Nat), Region.linearise.go m ops fuel t listed acc = acc.reverse ++ Region.linearise.go m ops fuel t listed []
  | 0, t, listed, acc => by simp [Region.linearise.go]
  | fuel + 1, t, listed, acc => by
    simp only [Region.linearise.go]
    split
    · rename_i i _
      rw [go_acc m ops fuel _ _ (i :: acc), go_acc m ops fuel _ _ [i]]
      simp
    · simp

/-- Ranks: every operation stands in the list, behind all that it waits for. -/
def rankOk (m : Region.Mode) (ops : Array Oper) (L : List Nat) : Bool :=
  (List.range ops.size).all fun i => L.contains i && match ops[i]? with
    | some o => o.after.toList.all fun e => !Region.binds m e || decide (L.idxOf e.on < L.idxOf i)
    | none => true

theorem rank_ready {m : Region.Mode} {ops : Array Oper} {L : List Nat} (hr : rankOk m ops L = true) (hb : ∀ (i : Nat) (o : Oper), ops[i]? = some o → ∀ e ∈ o.after, Region.binds m e = true → e.on < ops.size) (l : Nat → Bool) (hex : ∃ i, i < ops.size ∧ l i = false) :
    ∃ i o, ops[i]? = some o ∧ l i = false ∧ ∀ e ∈ o.after, Region.binds m e = true → l e.on = true := by
  have key : ∀ n i, i < ops.size → l i = false → L.idxOf i ≤ n → ∃ i o, ops[i]? = some o ∧ l i = false ∧ ∀ e ∈ o.after, Region.binds m e = true → l e.on = true := by
    intro n
    induction n using Nat.strongRecOn with
    | _ n ih =>
      intro i hi hl hn
      have ho : ops[i]? = some ops[i] := Array.getElem?_eq_getElem hi
      by_cases hall : ∀ e ∈ ops[i].after, Region.binds m e = true → l e.on = true
      · exact ⟨i, ops[i], ho, hl, hall⟩
      · simp only [Classical.not_forall] at hall
        obtain ⟨e, he, hbe, hne⟩ := hall
        have hne' : l e.on = false := by simpa using hne
        have h1 := List.all_eq_true.1 hr i (List.mem_range.2 hi)
        rw [ho] at h1
        simp only [Bool.and_eq_true, List.all_eq_true, Bool.or_eq_true, Bool.not_eq_true', decide_eq_true_eq] at h1
        have h2 := h1.2 e (by simpa using he)
        rw [hbe] at h2
        have h3 : L.idxOf e.on < L.idxOf i := by simpa using h2
        exact ih (L.idxOf e.on) (by omega) e.on (hb i _ ho e he hbe) hne' (Nat.le_refl _)
  obtain ⟨i, hi, hl⟩ := hex
  exact key _ i hi hl (Nat.le_refl _)

theorem lin_wp {P : Program} {ops : Array Oper} {m : Region.Mode} {L : List Nat} {Q : Exit → Act → World → Prop} (hr : rankOk m ops L = true) (hb : ∀ (i : Nat) (o : Oper), ops[i]? = some o → ∀ e ∈ o.after, Region.binds m e = true → e.on < ops.size)
    (I : (Nat → Bool) → Act → World → Prop)
    (hstep : ∀ (l : Nat → Bool) (a : Act) (w : World) (i : Nat) (o : Oper), I l a w → ops[i]? = some o → l i = false → (∀ e ∈ o.after, Region.binds m e = true → l e.on = true) → ∀ K : Act → World → Prop, (∀ a' w', I (upb l i) a' w' → K a' w') →
      if Region.wanted o (yielded ops a.tmps) = true then o.wp P a w K Q else K (a.put o.dst undef) w)
    (hfin : ∀ l a w, I l a w → (∀ i, i < ops.size → l i = true) → Q .normal a w) (hcongr : ∀ l l' a w, (∀ i, i < ops.size → l i = l' i) → I l a w → I l' a w) :
    ∀ (fuel t : Nat) (listed : Array Bool) (a : Act) (w : World), listed.size = ops.size → I (fun i => listed.getD i false) a w → ((List.range ops.size).filter fun i => !listed.getD i false).length ≤ fuel →
      wpOps P ops Q (Region.linearise.go m ops fuel t listed []) a w := by
  intro fuel
  induction fuel with
  | zero =>
    intro t listed a w hs hI hf
    simp only [Region.linearise.go, List.reverse_nil, wpOps]
    refine hfin _ a w hI (fun i hi => ?_)
    cases hl : listed.getD i false with
    | true => rfl
    | false =>
      have : i ∈ (List.range ops.size).filter fun i => !listed.getD i false := List.mem_filter.2 ⟨List.mem_range.2 hi, by simp [hl]⟩
      have := List.length_pos_of_mem this
      omega
  | succ fuel ih =>
    intro t listed a w hs hI hf
    simp only [Region.linearise.go]
    generalize hrs : ((List.range ops.size).filter fun i => !listed.getD i true && ((ops[i]?).map (·.after.all fun e => !Region.binds m e || listed.getD e.on false)).getD false) = rs
    have ready : ∀ i, i ∈ rs ↔ i < ops.size ∧ listed.getD i false = false ∧ ∃ o, ops[i]? = some o ∧ ∀ e ∈ o.after, Region.binds m e = true → listed.getD e.on false = true := by
      intro i
      rw [← hrs, List.mem_filter, List.mem_range]
      constructor
      · rintro ⟨h1, h2⟩
        simp only [Bool.and_eq_true, Bool.not_eq_true'] at h2
        obtain ⟨h2, h3⟩ := h2
        have ho : ops[i]? = some ops[i] := Array.getElem?_eq_getElem h1
        have hd : listed.getD i false = listed.getD i true := by simp [Array.getD, hs, h1]
        rw [ho] at h3
        simp only [Option.map_some, Option.getD_some, Array.all_eq_true'] at h3
        refine ⟨h1, hd.trans h2, ops[i], ho, fun e he hbe => ?_⟩
        have := h3 e he
        rw [hbe] at this
        simpa using this
      · rintro ⟨h1, h2, o, ho, h3⟩
        refine ⟨h1, ?_⟩
        have hd : listed.getD i false = listed.getD i true := by simp [Array.getD, hs, h1]
        simp only [Bool.and_eq_true, Bool.not_eq_true']
        refine ⟨hd.symm.trans h2, ?_⟩
        rw [ho]
        simp only [Option.map_some, Option.getD_some, Array.all_eq_true']
        intro e he
        cases hbe : Region.binds m e with
        | false => rfl
        | true => simpa using h3 e he hbe
    cases hi : rs[t % rs.length]? with
    | none =>
      have hnil : rs = [] := by
        cases rs with
        | nil => rfl
        | cons x r =>
          have : t % (x :: r).length < (x :: r).length := Nat.mod_lt _ (by simp)
          rw [List.getElem?_eq_getElem this] at hi
          cases hi
      simp only [List.reverse_nil, wpOps]
      refine hfin _ a w hI (fun i hi => ?_)
      cases hl : listed.getD i false with
      | true => rfl
      | false =>
        obtain ⟨j, o, ho, hlj, hdeps⟩ := rank_ready hr hb (fun i => listed.getD i false) ⟨i, hi, hl⟩
        have : j ∈ rs := (ready j).2 ⟨(Array.getElem?_eq_some_iff.1 ho).1, hlj, o, ho, hdeps⟩
        rw [hnil] at this; cases this
    | some i =>
      have hmem : i ∈ rs := List.mem_of_getElem? hi
      obtain ⟨h1, h2, o, ho, h3⟩ := (ready i).1 hmem
      simp only []
      rw [go_acc]
      simp only [List.reverse_cons, List.reverse_nil, List.nil_append, List.cons_append, wpOps, ho]
      have hst := hstep (fun i => listed.getD i false) a w i o hI ho h2 h3 (wpOps P ops Q (Region.linearise.go m ops fuel (t / rs.length) (listed.setIfInBounds i true) [])) (fun a' w' hI' => by
        refine ih _ _ a' w' (by simp [hs]) (hcongr _ _ a' w' (fun j hj => ?_) hI') ?_
        · simp only [upb]
          by_cases hji : j = i
          · subst hji
            simp [Array.getD, hs, h1]
          · rw [if_neg hji]
            simp only [Array.getD, Array.size_setIfInBounds]
            have : j < listed.size := hs ▸ hj
            simp only [this, dif_pos]
            exact (Array.getElem_setIfInBounds_ne (by simpa using this) (Ne.symm hji)).symm
        · have hsub : ((List.range ops.size).filter fun k => !(listed.setIfInBounds i true).getD k false).length + 1 ≤ ((List.range ops.size).filter fun k => !listed.getD k false).length := by
            have e1 : ∀ k, (!(listed.setIfInBounds i true).getD k false) = ((!listed.getD k false) && (k != i)) := by
              intro k
              by_cases hki : k = i
              · subst hki; simp [Array.getD, hs, h1]
              · simp only [Array.getD, Array.size_setIfInBounds]
                by_cases hk : k < listed.size
                · simp only [hk, dif_pos]
                  have : (listed.setIfInBounds i true)[k]'(by simpa using hk) = listed[k] := Array.getElem_setIfInBounds_ne (by simpa using hk) (Ne.symm hki)
                  rw [show ((listed.setIfInBounds i true).getInternal k (by simpa using hk)) = (listed.setIfInBounds i true)[k]'(by simpa using hk) from rfl, this]
                  simp [hki]
                · simp [hk, hki]
            simp only [e1]
            have : ((List.range ops.size).filter fun k => (!listed.getD k false) && (k != i)) = ((List.range ops.size).filter fun k => !listed.getD k false).filter (fun k => k != i) := by
              rw [List.filter_filter]; congr 1; funext k; rw [Bool.and_comm]
            rw [this]
            have hin : i ∈ (List.range ops.size).filter fun k => !listed.getD k false := List.mem_filter.2 ⟨List.mem_range.2 h1, by simp [h2]⟩
            have hnd : ((List.range ops.size).filter fun k => !listed.getD k false).Nodup := List.Pairwise.filter _ List.nodup_range
            rw [← List.Nodup.erase_eq_filter hnd, List.length_erase_of_mem hin]
            have := List.length_pos_of_mem hin
            omega
          omega)
      split
      · rename_i hw; rw [if_pos hw] at hst; exact .inl hst
      · rename_i hw; rw [if_neg hw] at hst; exact hst

theorem binds_any {e : Edge} (h : Region.binds .any e = true) (m : Region.Mode) : Region.binds m e = true := by
  unfold Region.binds at h ⊢
  split at h <;> first | rfl | (cases h)

/-- Whatever is drawn. -/
theorem sched_wp {P : Program} {ops : Array Oper} {Q : Exit → Act → World → Prop} (hr : ∀ m, ∃ L, rankOk m ops L = true) (hb : ∀ (i : Nat) (o : Oper), ops[i]? = some o → ∀ e ∈ o.after, e.on < ops.size)
    (I : (Nat → Bool) → Act → World → Prop)
    (hstep : ∀ (l : Nat → Bool) (a : Act) (w : World) (i : Nat) (o : Oper), I l a w → ops[i]? = some o → l i = false → (∀ e ∈ o.after, Region.binds .any e = true → l e.on = true) → ∀ K : Act → World → Prop, (∀ a' w', I (upb l i) a' w' → K a' w') →
      if Region.wanted o (yielded ops a.tmps) = true then o.wp P a w K Q else K (a.put o.dst undef) w)
    (hfin : ∀ l a w, I l a w → (∀ i, i < ops.size → l i = true) → Q .normal a w) (hcongr : ∀ l l' a w, (∀ i, i < ops.size → l i = l' i) → I l a w → I l' a w)
    (mixed : Bool) (t : Nat) (a : Act) (w : World) (h0 : I (fun _ => false) a w) : wpOps P ops Q (Region.schedule mixed ops t) a w := by
  have key : ∀ m t, wpOps P ops Q (Region.linearise m ops t) a w := by
    intro m t
    obtain ⟨L, hL⟩ := hr m
    unfold Region.linearise
    refine lin_wp hL (fun i o ho e he _ => hb i o ho e he) I (fun l a w i o hI ho hl hd => hstep l a w i o hI ho hl (fun e he hbe => hd e he (binds_any hbe m))) hfin hcongr _ _ _ a w (by simp) ?_ ?_
    · refine hcongr _ _ a w (fun i hi => ?_) h0
      simp [Array.getD, hi]
    · exact Nat.le_trans (List.length_filter_le _ _) (by simp)
  unfold Region.schedule
  split
  · exact key _ _
  · split <;> exact key _ _

end Go.Proofs.Ytdfmdclfnhgjiaa.Can
