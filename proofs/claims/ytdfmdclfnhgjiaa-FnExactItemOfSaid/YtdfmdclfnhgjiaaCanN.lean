/- Draw regions: one account speaks for all orders.
   Conditions: checked by drawOk. -/
import Derived.Test.YtdfmdclfnhgjiaaCanM
set_option linter.unusedVariables false
set_option linter.unusedSimpArgs false
namespace Go.Proofs.Ytdfmdclfnhgjiaa.Can
open Go

theorem notIn_some {d : Option Nat} {l : List Nat} (h : notIn d l = true) {t : Nat} (ht : t ∈ l) : d ≠ some t := by
  intro e
  subst e
  simp [notIn] at h
  exact h ht
theorem apartB_1 {a c : MI} (h : apartB a c = true) : notIn a.dst (namesOf c) = true := by
  unfold apartB at h; simp only [Bool.and_eq_true] at h; exact h.1.1
theorem apartB_2 {a c : MI} (h : apartB a c = true) : notIn c.dst (namesOf a) = true := by
  unfold apartB at h; simp only [Bool.and_eq_true] at h; exact h.1.2
theorem apartB_3 {a c : MI} (h : apartB a c = true) {t : Nat} (ha : a.dst = some t) : c.dst ≠ some t := by
  intro hc
  unfold apartB at h; simp only [Bool.and_eq_true] at h
  have := h.2
  rw [ha, hc] at this
  simp at this

theorem nameSlots_mem {xs : List Operand} {t : Nat} (h : Operand.tmp t ∈ xs) : t ∈ nameSlots xs := by
  induction xs with
  | nil => cases h
  | cons x xs ih =>
    rcases List.mem_cons.1 h with h1 | h1
    · subst h1; simp [nameSlots]
    · cases x <;> simp only [nameSlots] <;> first | exact List.mem_cons_of_mem _ (ih h1) | exact ih h1

section
variable {P : Program} {N : Nat} {ops : Array Oper} {o : Nat → Nat} {M : Nat → Option MI} {n : Nat} {bf : Nat → Nat → Bool} {dl : List (MI × List MI)} {ρs : Nat → Nat → Value} {hs : Nat → CH} {vs : Nat → Value}

def Slots (M : Nat → Option MI) (o : Nat → Nat) (n N : Nat) (ρs : Nat → Nat → Value) (hs : Nat → CH) (vs : Nat → Value) (ι : Map) (l : Nat → Bool) (κ : Map) (a : Act) : Prop :=
  ∀ t, t < N → (∃ p mi, p < n ∧ l (o p) = true ∧ M p = some mi ∧ mi.dst = some t ∧ (∀ r mr, r < n → l (o r) = true → M r = some mr → mr.dst = some t → r ≤ p) ∧ VR (κ.cut (hs (p + 1)).size) (vs p) (a.tmps.getD t undef)) ∨
    ((∀ r mr, r < n → l (o r) = true → M r = some mr → mr.dst ≠ some t) ∧ VR ι (ρs 0 t) (a.tmps.getD t undef))

theorem upd_some {ρ : Nat → Value} {t : Nat} {v : Value} : upd ρ (some t) v t = v := by simp [upd]

/-- What a slot holds at place p, out of the last one that wrote it. -/
theorem RF.last (f : RF P N ops o M n bf dl ρs hs vs) {p r t : Nat} (hp : p ≤ n) (hr : r < p) {mr : MI} (hm : M r = some mr) (hd : mr.dst = some t) (hno : ∀ s ms, r < s → s < p → M s = some ms → ms.dst ≠ some t) : ρs p t = vs r := by
  rw [f.slot_keep (p := r + 1) p (by omega) hp (fun s ms h1 h2 => hno s ms (by omega) h2), f.slot (by omega) hm, hd, upd_some]

variable {ι κ : Map} {w0 w w' : World} {l : Nat → Bool} {q p : Nat} {a : Act}

/-- A slot that the operation at place p names. -/
theorem slot_at (f : RF P N ops o M n bf dl ρs hs vs) (g : Hp M o n hs ι w0 l κ q w) (hsh : Shut ops o n l) (hN : a.tmps.size = N) (hS : Slots M o n N ρs hs vs ι l κ a) (hp : p < n) (hl : l (o p) = false) {mi : MI} (hm : M p = some mi)
    (hready : ∀ r, r < n → bf r p = true → l (o r) = true) {t : Nat} (ht : t ∈ namesOf mi) : VR (κ.cut (hs p).size) (ρs p t) (a.tmps.getD t undef) := by
  have hsz := f.size
  by_cases htN : t < N
  · -- who writes the slot, and stands before p, is done; who stands behind is not
    have before : ∀ r mr, r < p → M r = some mr → mr.dst = some t → l (o r) = true := by
      intro r mr hr hmr hd
      refine hready r (by omega) ?_
      cases hb : bf r p with
      | true => rfl
      | false => exact absurd hd (notIn_some (apartB_1 (f.d.pair r p mr mi hr hp hb hmr hm).2.2.2.1) ht)
    have behind : ∀ r mr, p < r → r < n → M r = some mr → mr.dst = some t → l (o r) = false := by
      intro r mr hr hrn hmr hd
      have hb : bf p r = true := by
        cases hb : bf p r with
        | true => rfl
        | false => exact absurd hd (notIn_some (apartB_2 (f.d.pair p r mi mr hr hrn hb hm hmr).2.2.2.1) ht)
      cases hlr : l (o r) with
      | false => rfl
      | true => rw [f.d.bf_in hsh r p hp hrn hb hlr] at hl; cases hl
    rcases hS t htN with ⟨r, mr, h1, h2, h3, h4, h5, h6⟩ | ⟨h1, h2⟩
    · have hrp : r < p := by
        rcases Nat.lt_trichotomy r p with h | h | h
        · exact h
        · subst h; rw [hl] at h2; cases h2
        · rw [behind r mr h h1 h3 h4] at h2; cases h2
      rw [f.last (by omega) hrp h3 h4 (fun s ms hs1 hs2 hms hd => by
        have := h5 s ms (by omega) (before s ms hs2 hms hd) hms hd
        omega)]
      exact h6.mono (Map.cut_mono κ.le_refl (hsz (r + 1) p (by omega) (by omega)))
    · rw [f.slot_keep (p := 0) p (Nat.zero_le _) (by omega) (fun r mr _ hr hmr hd => h1 r mr (by omega) (before r mr hr hmr hd) hmr hd)]
      exact h2.mono (fun x i e => Map.cut_of (Nat.lt_of_lt_of_le (g.idom x i e) (hsz 0 p (Nat.zero_le _) (by omega))) (g.le x i e))
  · have h1 : ρs p t = undef := f.out' (by omega) (by omega)
    have h2 : a.tmps.getD t undef = undef := by simp [Array.getD, hN, htN]
    rw [h1]
    show VR _ undef (a.tmps.getD t undef)
    rw [h2]; exact .undef _

theorem slot_end (f : RF P N ops o M n bf dl ρs hs vs) (g : Hp M o n hs ι w0 l κ q w) (hS : Slots M o n N ρs hs vs ι l κ a) (hall : ∀ r, r < n → l (o r) = true) {t : Nat} (ht : t < N) : VR κ (ρs n t) (a.tmps.getD t undef) := by
  rcases hS t ht with ⟨r, mr, h1, h2, h3, h4, h5, h6⟩ | ⟨h1, h2⟩
  · rw [f.last (Nat.le_refl _) h1 h3 h4 (fun s ms hs1 hs2 hms hd => by have := h5 s ms hs2 (hall s hs2) hms hd; omega)]
    exact h6.mono (Map.cut_le _ _)
  · rw [f.slot_keep (p := 0) n (Nat.zero_le _) (Nat.le_refl _) (fun r mr _ hr hmr => h1 r mr hr (hall r hr) hmr)]
    exact h2.mono g.le

/-- The frame with what the operation names, and nothing else. -/
def thin (names : List Nat) (a : Act) (N : Nat) : Act := { tmps := ((List.range N).map fun t => if names.contains t then a.tmps.getD t undef else undef).toArray, defers := [] }
def thinρ (names : List Nat) (ρ : Nat → Value) (N : Nat) : Nat → Value := fun t => if names.contains t ∧ t < N then ρ t else undef

theorem thin_get {names : List Nat} {t : Nat} (ht : t < N) : (thin names a N).tmps.getD t undef = if names.contains t then a.tmps.getD t undef else undef := by
  simp [thin, Array.getD, ht]

theorem thin_AR {κ' : Map} {names : List Nat} {ρ : Nat → Value} (hv : ∀ t, t ∈ names → VR κ' (ρ t) (a.tmps.getD t undef)) : AR κ' N (thinρ names ρ N) (thin names a N) := by
  refine ⟨by simp [thin], rfl, fun t ht => ?_, fun t ht => ?_⟩
  · show VR κ' (thinρ names ρ N t) ((thin names a N).tmps.getD t undef)
    rw [thin_get ht]
    unfold thinρ
    by_cases hc : names.contains t = true
    · rw [if_pos ⟨hc, ht⟩, if_pos hc]; exact hv t (by simpa using hc)
    · rw [if_neg (fun z => hc z.1), if_neg hc]; exact .undef _
  · unfold thinρ; rw [if_neg (fun z => absurd z.2 (by omega))]

theorem thin_eval {names : List Nat} {xs : List Operand} (hN : a.tmps.size = N) (h : ∀ t, Operand.tmp t ∈ xs → t ∈ names) : ∀ x ∈ xs, (thin names a N).eval x = a.eval x := by
  intro x hx
  cases x with
  | tmp t =>
    show (thin names a N).tmps.getD t undef = a.tmps.getD t undef
    by_cases ht : t < N
    · rw [thin_get ht, if_pos (by simpa using h t hx)]
    · simp [thin, Array.getD, hN, ht]
  | _ => rfl

theorem thinρ_ev {names : List Nat} {ρ : Nat → Value} {xs : List Operand} (h : ∀ t, Operand.tmp t ∈ xs → t ∈ names) (hout : ∀ t, N ≤ t → ρ t = undef) : xs.map (ev (thinρ names ρ N)) = xs.map (ev ρ) := by
  refine List.map_congr_left (fun x hx => ?_)
  cases x with
  | tmp t =>
    show thinρ names ρ N t = ρ t
    unfold thinρ
    by_cases ht : t < N
    · rw [if_pos ⟨by simpa using h t hx, ht⟩]
    · rw [if_neg (fun z => ht z.2), hout t (Nat.le_of_not_lt ht)]
  | _ => rfl

/-- Behind an operation: its slot. -/
theorem slots_put (f : RF P N ops o M n bf dl ρs hs vs) {κ' : Map} (hle : κ.le κ') (hsh : Shut ops o n l) (hN : a.tmps.size = N) (hS : Slots M o n N ρs hs vs ι l κ a) (hp : p < n) (hl : l (o p) = false) {mi : MI} (hm : M p = some mi) {v' : Value} (hv : VR (κ'.cut (hs (p + 1)).size) (vs p) v') :
    Slots M o n N ρs hs vs ι (upb l (o p)) κ' (a.put mi.dst v') := by
  intro t ht
  have hts : t < a.tmps.size := hN ▸ ht
  by_cases hd : mi.dst = some t
  · left
    refine ⟨p, mi, hp, upb_self _ _, hm, hd, ?_, ?_⟩
    · intro r mr hr hlr hmr hdr
      rcases upb_inv hlr with h | h
      · have := f.d.inj r p hr hp h
        omega
      · by_cases hrp : r ≤ p
        · exact hrp
        · exfalso
          have hb : bf p r = true := by
            cases hb : bf p r with
            | true => rfl
            | false => exact absurd hdr (apartB_3 (f.d.pair p r mi mr (by omega) hr hb hm hmr).2.2.2.1 hd)
          rw [f.d.bf_in hsh r p hp hr hb h] at hl; cases hl
    · have : (a.put mi.dst v').tmps.getD t undef = v' := by rw [hd]; simp [Act.put, Array.getD, hts]
      rw [this]; exact hv
  · have same : (a.put mi.dst v').tmps.getD t undef = a.tmps.getD t undef := by
      cases hdm : mi.dst with
      | none => rfl
      | some d =>
        have hne : d ≠ t := fun e => hd (by rw [hdm, e])
        show (if h : t < (a.tmps.setIfInBounds d v').size then (a.tmps.setIfInBounds d v')[t] else undef) = (if h : t < a.tmps.size then a.tmps[t] else undef)
        rw [dif_pos (by simpa using hts), dif_pos hts]
        exact Array.getElem_setIfInBounds_ne (by simpa using hts) hne
    rw [same]
    rcases hS t ht with ⟨r, mr, h1, h2, h3, h4, h5, h6⟩ | ⟨h1, h2⟩
    · refine .inl ⟨r, mr, h1, upb_of h2, h3, h4, fun s ms hs1 hls hms hds => ?_, h6.mono (Map.cut_mono hle (Nat.le_refl _))⟩
      rcases upb_inv hls with h | h
      · have := f.d.inj s p hs1 hp h
        subst this
        rw [hm] at hms; cases hms
        exact absurd hds hd
      · exact h5 s ms hs1 h hms hds
    · refine .inr ⟨fun s ms hs1 hls hms hds => ?_, h2⟩
      rcases upb_inv hls with h | h
      · have := f.d.inj s p hs1 hp h
        subst this
        rw [hm] at hms; cases hms
        exact hd hds
      · exact h1 s ms hs1 h hms hds

theorem shut_upb (f : RF P N ops o M n bf dl ρs hs vs) (hsh : Shut ops o n l) (hp : p < n) {oi : Oper} (ho : ops[o p]? = some oi) (hd : ∀ e ∈ oi.after, Region.binds .any e = true → l e.on = true) : Shut ops o n (upb l (o p)) := by
  intro q hq hlq oj hoj e he hbe
  rcases upb_inv hlq with h | h
  · have := f.d.inj q p hq hp h
    subst this
    rw [ho] at hoj; cases hoj
    exact upb_of (hd e he hbe)
  · exact upb_of (hsh q hq h oj hoj e he hbe)


/-- What holds while a region runs. -/
def Inv (ops : Array Oper) (M : Nat → Option MI) (o : Nat → Nat) (n N : Nat) (ρs : Nat → Nat → Value) (hs : Nat → CH) (vs : Nat → Value) (ι : Map) (w0 : World) (l : Nat → Bool) (a : Act) (w : World) : Prop :=
  ∃ κ q, Hp M o n hs ι w0 l κ q w ∧ Shut ops o n l ∧ a.tmps.size = N ∧ a.defers = [] ∧ Slots M o n N ρs hs vs ι l κ a

theorem put_size {a : Act} {d : Option Nat} {v : Value} : (a.put d v).tmps.size = a.tmps.size := by cases d <;> simp [Act.put]
theorem put_defers {a : Act} {d : Option Nat} {v : Value} : (a.put d v).defers = a.defers := by cases d <;> rfl

/-- One operation, whatever else has been done. -/
theorem inv_step (f : RF P N ops o M n bf dl ρs hs vs) (hclo : ∀ p, p < n → clo (hs (p + 1)).size (vs p)) (hI : Inv ops M o n N ρs hs vs ι w0 l a w) (hp : p < n) (hl : l (o p) = false) {oi : Oper} (ho : ops[o p]? = some oi)
    (hd : ∀ e ∈ oi.after, Region.binds .any e = true → l e.on = true) :
    if Region.wanted oi (yielded ops a.tmps) = true then RunsTo P a w oi (fun v' w' => Inv ops M o n N ρs hs vs ι w0 (upb l (o p)) (a.put oi.dst v') w') else Inv ops M o n N ρs hs vs ι w0 (upb l (o p)) (a.put oi.dst undef) w := by
  obtain ⟨κ, q, g, hsh, hN, hdef, hS⟩ := hI
  obtain ⟨oi', mi, ho', hm, hcomp⟩ := f.d.comp p hp
  rw [ho] at ho'; cases ho'
  obtain ⟨c1, c2, c3, c4, c5, c6⟩ := compOp_some hcomp
  obtain ⟨re, hdl, _⟩ := f.dl p mi hm
  have hready := f.d.bf_ready hsh hp ho hd
  have hsz := f.size
  have hsh' := shut_upb f hsh hp ho hd
  have hvr : ∀ t, t ∈ namesOf mi → VR (κ.cut (hs p).size) (ρs p t) (a.tmps.getD t undef) := fun t ht => slot_at f g hsh hN hS hp hl hm hready ht
  have hnames : ∀ t, Operand.tmp t ∈ opdsOf oi.op → t ∈ namesOf mi := fun t ht => by
    unfold namesOf; rw [c5]; exact List.mem_append_left _ (nameSlots_mem ht)
  have hout : ∀ t, N ≤ t → ρs p t = undef := fun t ht => f.out' (by omega) ht
  have hAR := thin_AR (N := N) (a := a) (names := namesOf mi) hvr
  have hcongr : execOp (thin (namesOf mi) a N).eval oi = execOp a.eval oi := execOp_congr c1 (fun x hx => thin_eval hN hnames x hx)
  have hvals : (opdsOf oi.op).map (ev (thinρ (namesOf mi) (ρs p) N)) = mi.xs.map (ev (ρs p)) := by rw [c5]; exact thinρ_ev hnames hout
  -- the guard
  have hwant : Region.wanted oi (yielded ops a.tmps) = onB mi (ρs p) := by
    unfold onB
    cases hgo : oi.guard with
    | none => rw [hgo] at c6; simp only at c6; rw [c6]; simp [Region.wanted, hgo]
    | some pr =>
      obtain ⟨j, b⟩ := pr
      rw [hgo] at c6
      obtain ⟨t, ht, hlt, hmg⟩ := c6
      rw [hmg]
      simp only [Region.wanted, hgo]
      have hv := hvr t (by unfold namesOf; rw [hmg]; simp)
      have hs' : t < a.tmps.size := hN ▸ hlt
      have hget : a.tmps[t]? = some (a.tmps.getD t undef) := by simp [Array.getD, hs']
      have hy : yielded ops a.tmps j = isB (a.tmps.getD t undef) := by
        unfold yielded
        rw [ht]
        simp only [Option.bind_some, hget]
        cases a.tmps.getD t undef <;> rfl
      rw [hy, isB_rel hv]
      cases isB (ρs p t) with
      | none => simp
      | some c => cases b <;> cases c <;> rfl
  have done : ∀ κ' q' v' w', κ.le κ' → Hp M o n hs ι w0 (upb l (o p)) κ' q' w' → VR (κ'.cut (hs (p + 1)).size) (vs p) v' → Inv ops M o n N ρs hs vs ι w0 (upb l (o p)) (a.put oi.dst v') w' := by
    intro κ' q' v' w' hle hH hv
    rw [← c4]
    exact ⟨κ', q', hH, hsh', put_size.trans hN, put_defers.trans hdef, slots_put f hle hsh hN hS hp hl hm hv⟩
  have h01 : (hs p).size ≤ (hs (p + 1)).size := f.size1 hp
  -- the last writing operation that is done
  have hlast : q ≤ p ∨ ∃ r mr, q = r + 1 ∧ p < r ∧ r < n ∧ M r = some mr ∧ kind mr.sh = .eff ∧ bf p r = false := by
    rcases g.qe with h | ⟨r, mr, h1, h2, h3, h4⟩
    · exact .inl (by omega)
    · have hdone : l (o r) = true := (g.stage r mr h2 h3 h4).2 (by omega)
      rcases Nat.lt_trichotomy r p with h | h | h
      · exact .inl (by omega)
      · subst h; rw [hl] at hdone; cases hdone
      · refine .inr ⟨r, mr, h1, h, h2, h3, h4, ?_⟩
        cases hb : bf p r with
        | false => rfl
        | true => rw [f.d.bf_in hsh r p hp h2 hb hdone] at hl; cases hl
  -- those before p are done, where p is a read or a writing one
  have hcalm : kind mi.sh = .read ∨ kind mi.sh = .eff → calm M q p := by
    intro hk r mr hr1 hr2 hmr hkr
    have hb : bf r p = true := by
      cases hb : bf r p with
      | true => rfl
      | false =>
        have := f.d.pair r p mr mi hr2 hp hb hmr hm
        rcases hk with hk | hk
        · exact absurd ⟨hkr, hk⟩ this.2.1
        · exact absurd ⟨hkr, hk⟩ this.1
    have := (g.stage r mr (by omega) hmr hkr).1 (hready r (by omega) hb)
    omega
  have hqp : kind mi.sh = .new ∨ kind mi.sh = .eff → q ≤ p := by
    intro hk
    rcases hlast with h | ⟨r, mr, h1, h2, h3, h4, h5, h6⟩
    · exact h
    · have := f.d.pair p r mi mr h2 h3 h6 hm h4
      rcases hk with hk | hk
      · exact absurd ⟨hk, h5⟩ this.2.2.1
      · exact absurd ⟨hk, h5⟩ this.1
  split
  · rename_i hw
    rw [hwant] at hw
    have hstep := f.tr.on p mi re hdl hw
    cases hk : kind mi.sh with
    | pure =>
      unfold Step at hstep
      rw [hk] at hstep
      refine RunsTo.congr hcongr ?_
      obtain ⟨dst, op, type, pos, after, guard⟩ := oi
      obtain ⟨v', r1, r2⟩ := pure_sound (w := w) (dst := dst) (type := type) (pos := pos) (after := after) (guard := guard) hAR (wf P) c1 c2 (by rw [hvals]; exact hstep.1)
      exact .inl ⟨v', w, r1, done κ q v' w κ.le_refl (g.still f hp hm (by rw [hk]; simp) hstep.2) (r2.mono (Map.cut_mono κ.le_refl h01))⟩
    | read =>
      unfold Step at hstep
      rw [hk] at hstep
      refine RunsTo.congr hcongr ?_
      have fin : ∀ v', VR κ (vs p) v' → Inv ops M o n N ρs hs vs ι w0 (upb l (o p)) (a.put oi.dst v') w := fun v' hv =>
        done κ q v' w κ.le_refl (g.still f hp hm (by rw [hk]; simp) hstep.2) (hv.clo (hclo p hp))
      obtain ⟨dst, op, type, pos, after, guard⟩ := oi
      rcases hlast with h | ⟨r, mr, h1, h2, h3, h4, h5, h6⟩
      · have hR := g.at f (show p ≤ n by omega) h (hcalm (.inl hk))
        obtain ⟨v', r1, r2⟩ := read_sound (dst := dst) (type := type) (pos := pos) (after := after) (guard := guard) hAR hR (wf P) c1 c2 (by rw [hvals]; exact hstep.1)
        exact .inl ⟨v', w, r1, fin v' (r2.mono (Map.cut_le _ _))⟩
      · have hR := g.at f (show q ≤ n from g.qn) (Nat.le_refl q) (fun s ms hs1 hs2 => by omega)
        have hpair := (f.d.pair p r mi mr h2 h3 h6 hm h4).2.2.2.2 hk h5
        obtain ⟨⟨dd, hdd⟩, hself, hnow⟩ := hpair
        have keep : ∀ t, t ∈ namesOf mi → ρs (r + 1) t = ρs p t := by
          intro t ht
          refine f.slot_keep (p := p) (r + 1) (by omega) (by omega) (fun s ms hs1 hs2 hms hds => ?_)
          by_cases hsp : s = p
          · subst hsp
            rw [hm] at hms; cases hms
            exact notIn_some hself ht hds
          · exact notIn_some (hnow s ms (by omega) (by omega) hms).1 ht hds
        have hv2 : mi.xs.map (ev (ρs (r + 1))) = mi.xs.map (ev (ρs p)) := by
          refine List.map_congr_left (fun x hx => ?_)
          cases x with
          | tmp t => exact keep t (hnames t (by rw [← c5]; exact hx))
          | _ => rfl
        have hon : onB mi (ρs (r + 1)) = true := by
          rw [← hw]
          unfold onB
          cases hg : mi.guard with
          | none => rfl
          | some pr =>
            obtain ⟨t, b⟩ := pr
            simp only
            rw [keep t (by unfold namesOf; rw [hg]; simp)]
        obtain ⟨rr, hdr, hin⟩ := f.dl r mr h4
        have hre := reW_mem (f.tr.re r mr rr hdr) (hin p mi h2 h6 hm hk h5) hon
        unfold reOk at hre
        rw [hdd] at hre
        simp only at hre
        have hlastv : ρs (r + 1) dd = vs p := f.last (p := r + 1) (by omega) (by omega) hm hdd (fun s ms hs1 hs2 hms hds => (hnow s ms hs1 (by omega) hms).2 dd hds hdd)
        rw [hv2, hlastv, ← h1] at hre
        obtain ⟨v', r1, r2⟩ := read_sound (dst := dst) (type := type) (pos := pos) (after := after) (guard := guard) (hAR.mono (Map.cut_mono κ.le_refl (hsz p q (by omega) g.qn))) hR (wf P) c1 c2 (by rw [hvals]; exact hre)
        exact .inl ⟨v', w, r1, fin v' (r2.mono (Map.cut_le _ _))⟩
    | new =>
      unfold Step at hstep
      rw [hk] at hstep
      obtain ⟨co, fn, s1, s2, s3⟩ := hstep
      refine RunsTo.congr hcongr ?_
      obtain ⟨dst, op, type, pos, after, guard⟩ := oi
      obtain ⟨i, v', w', O, r1, r2, r3, r4, r5, r6, r7⟩ := new_sound (w := w) (dst := dst) (type := type) (pos := pos) (after := after) (guard := guard) hAR c1 c2 (by rw [hvals]; exact s1)
      have hfresh : (κ.cut (hs p).size) (hs p).size = none := by unfold Map.cut; rw [if_neg (by omega)]
      obtain ⟨r8, r9⟩ := r7 (hs p).size hfresh
      obtain ⟨hH, hle⟩ := g.new f hp hl (hqp (.inl hk)) hm (by rw [hk]; simp) s3 r2 r3 r4 r5 r6 r9
      refine .inl ⟨v', w', r1, done _ q v' w' hle hH ?_⟩
      rw [s2]
      refine r8.mono (fun x j e => ?_)
      have hsz1 : (hs (p + 1)).size = (hs p).size + 1 := by rw [s3]; rfl
      by_cases hx : x = (hs p).size
      · subst hx
        rw [Map.put_self] at e; cases e
        exact Map.cut_of (by omega) (Map.put_self _ _ _)
      · rw [Map.put_ne _ _ hx] at e
        obtain ⟨e1, e2⟩ := Map.cut_some e
        exact Map.cut_of (by omega) (hle x j e2)
    | eff =>
      refine RunsTo.congr hcongr ?_
      have hR := g.at f (show p ≤ n by omega) (hqp (.inr hk)) (hcalm (.inr hk))
      refine (step_run (wf P) hAR hR c1 c2 (by rw [hvals]; exact hstep)).mono (fun v' w' hpost => ?_)
      obtain ⟨κ', hH, hle, hv⟩ := g.eff f hp hl (hqp (.inr hk)) (hcalm (.inr hk)) hm hk hready hpost
      exact done κ' (p + 1) v' w' hle hH hv
  · rename_i hw
    rw [hwant] at hw
    have hoff := f.tr.off p mi re hdl (by simpa using hw)
    by_cases hk : kind mi.sh = .eff
    · have hR := g.at f (show p ≤ n by omega) (hqp (.inr hk)) (hcalm (.inr hk))
      have hpost : Post (κ.cut (hs p).size) (hs p) w undef (hs (p + 1)) undef w := ⟨_, .undef _, by rw [hoff.2]; exact hR, by rw [hoff.2]; exact Fr.refl _ _ _⟩
      obtain ⟨κ', hH, hle, hv⟩ := g.eff f hp hl (hqp (.inr hk)) (hcalm (.inr hk)) hm hk hready hpost
      exact done κ' (p + 1) undef w hle hH (by rw [hoff.1]; exact hv)
    · exact done κ q undef w κ.le_refl (g.still f hp hm hk hoff.2) (by rw [hoff.1]; exact .undef _)


/-! ### The whole -/

theorem RunsTo.ex {o : Oper} {R : Value → World → Prop} (g : RunsTo P a w o R) : ∃ v' w', R v' w' := by
  rcases g with ⟨v', w', _, h⟩ | ⟨w', _, h⟩ | ⟨f, args', _, h⟩
  · exact ⟨v', w', h⟩
  · exact ⟨undef, w', h⟩
  · obtain ⟨e, w', _, ⟨v', _, hR⟩, _⟩ := h []
    exact ⟨v', w', hR⟩

/-- Along the account's own order: each value's addresses are below what there is by then. -/
theorem clo_all {ops : Array Oper} (f : RF P N ops o M n bf dl ρs hs vs) (hA : AR ι N (ρs 0) a) (hR : HR ι (hs 0) w) : ∀ p, p ≤ n → (∃ (κ : Map) (a' : Act) (w' : World), AR κ N (ρs p) a' ∧ HR κ (hs p) w') ∧ ∀ r, r < p → clo (hs (r + 1)).size (vs r) := by
  intro p
  induction p with
  | zero => exact fun _ => ⟨⟨ι, a, w, hA, hR⟩, fun r hr => by omega⟩
  | succ p ih =>
    intro hp
    obtain ⟨⟨κ, a1, w1, hA1, hR1⟩, hc⟩ := ih (by omega)
    obtain ⟨oi, mi, ho, hm, hcomp⟩ := f.d.comp p (by omega)
    obtain ⟨c1, c2, c3, c4, c5, c6⟩ := compOp_some hcomp
    obtain ⟨re, hdl, _⟩ := f.dl p mi hm
    have hslot := f.slot (by omega) hm
    cases hon : onB mi (ρs p) with
    | true =>
      have hst := f.tr.on p mi re hdl hon
      rw [c5] at hst
      obtain ⟨v', w', κ', q1, q2, q3⟩ := (step_run (wf P) hA1 hR1 c1 c2 hst).ex
      refine ⟨⟨κ', a1.put oi.dst v', w', ?_, q2⟩, fun r hr => ?_⟩
      · rw [hslot, c4]; exact (hA1.mono q3.le).put c3 q1
      · by_cases hrp : r = p
        · subst hrp; exact ⟨κ', v', q1, q2.dom⟩
        · exact hc r (by omega)
    | false =>
      obtain ⟨e1, e2⟩ := f.tr.off p mi re hdl hon
      refine ⟨⟨κ, a1.put oi.dst undef, w1, ?_, by rw [e2]; exact hR1⟩, fun r hr => ?_⟩
      · rw [hslot, c4, e1]; exact hA1.put c3 (.undef κ)
      · by_cases hrp : r = p
        · subst hrp; rw [e1]; exact ⟨fun _ => none, undef, .undef _, fun x i e => by cases e⟩
        · exact hc r (by omega)

theorem draw_sound {id : Nat} {dl : List (MI × List MI)} {ρ : Nat → Value} {h : CH} {ops : Array Oper} {K : (Nat → Value) → CH → Prop} {Q : Exit → Act → World → Prop} (hc : compDraw P N ops = some dl) (hA : AR ι N ρ a) (hR : HR ι h w) (hw : drawW P dl ρ h K)
    (hq : ∀ a' w', After P ι N h w K a' w' → Q .normal a' w') : (Code.region id ops true).wp P Q a w := by
  refine wp_region_draw (fun t => ?_)
  have hR' : HR ι h { w with drawn := w.drawn + 1 } := hR.same rfl
  have hF' : Fr ι h w ι h { w with drawn := w.drawn + 1 } := Fr.same rfl rfl rfl rfl
  unfold compDraw at hc
  simp only at hc
  split at hc
  · rename_i M hM
    split at hc
    · rename_i hok
      cases hc
      generalize hord : ordGo P ops ops.size [] = ord at hM hok hw
      have d := df_of hM hok
      obtain ⟨ρs, hs, vs, tr, e1, e2, k⟩ := drawW_tr hw
      obtain ⟨hMlen, _⟩ := compOrd_get hM
      have hordlen : ord.length = ops.size := by
        simp only [drawOk, Bool.and_eq_true, beq_iff_eq] at hok
        exact hok.1.1.1.1.1.1.1.1.1.1
      have hMn : M.length = ops.size := by omega
      have hdllen : (dlOf ops ord M).length = ops.size := by simp [dlOf, hMn]
      rw [hdllen] at k
      have f : RF P N ops (fun p => ord.getD p ops.size) (fun p => M[p]?) ops.size (fun p q => rB (Region.before ops) (ord.getD p ops.size) (ord.getD q ops.size)) (dlOf ops ord M) ρs hs vs := by
        refine ⟨d, tr, ?_, fun t ht => by rw [e1]; exact hA.out t ht⟩
        intro p mi hm
        refine ⟨resOf' (Region.before ops) ops.size ord M p mi, ?_, ?_⟩
        · simp only [dlOf, List.getElem?_map, List.getElem?_zipIdx, hm]
          simp
        · intro p' a' hlt hb ha hka hkm
          unfold resOf'
          rw [hkm]
          simp only [beq_self_eq_true, if_true, List.mem_filterMap, List.mem_range]
          refine ⟨p', hlt, ?_⟩
          rw [ha]
          simp only [hka, beq_self_eq_true, Bool.true_and]
          rw [if_pos (by rw [hb]; rfl)]
      subst e1
      subst e2
      have hclo := (clo_all f hA hR' ops.size (Nat.le_refl _)).2
      refine sched_wp d.rank d.rng (Inv ops (fun p => M[p]?) (fun p => ord.getD p ops.size) ops.size N ρs hs vs ι { w with drawn := w.drawn + 1 }) ?_ ?_ ?_ _ t a _ ?_
      · intro l a1 w1 i oi hI ho hl hd K' hK'
        obtain ⟨p, hp, hpi⟩ := d.pos i (Array.getElem?_eq_some_iff.1 ho).1
        subst hpi
        have hst := inv_step f (fun p hp => hclo p hp) hI hp hl ho hd
        split at hst
        · rename_i hwt; rw [if_pos hwt]; exact hst.wp (fun v' w' hI' => hK' _ _ hI')
        · rename_i hwt; rw [if_neg hwt]; exact hK' _ _ hst
      · intro l a1 w1 ⟨κ, q, g, hsh, hN, hdef, hS⟩ hall
        have hall' : ∀ r, r < ops.size → l (ord.getD r ops.size) = true := fun r hr => hall _ (d.lt r hr)
        have hqcalm : calm (fun p => M[p]?) q ops.size := fun r mr h1 h2 h3 h4 => by have := (g.stage r mr h2 h3 h4).1 (hall' r h2); omega
        have hRn := g.at f (Nat.le_refl _) g.qn hqcalm
        have hcut : κ.cut (hs ops.size).size = κ := by
          funext x
          cases e : κ x with
          | none => unfold Map.cut; split <;> first | exact e | rfl
          | some i => exact Map.cut_of (g.dom x i e) e
        rw [hcut] at hRn
        refine hq a1 w1 ⟨κ, ρs ops.size, hs ops.size, k, ⟨hN, hdef, fun t ht => slot_end f g hS hall' ht, fun t ht => f.out' (Nat.le_refl _) ht⟩, hRn, hF'.trans ?_⟩
        have own : ∀ x i, κ x = some i → ((hs ops.size).at_ x).own = true → ((hs (max q (rk hs ops.size x))).at_ x).own = true := by
          intro x i e ho
          have hx := g.dom x i e
          have h1 := (rk_le (n := ops.size) f.size (Nat.le_refl _)).2 hx
          have h2 : max q (rk hs ops.size x) ≤ ops.size := Nat.max_le.2 ⟨g.qn, h1⟩
          rw [← f.keep ((rk_le (n := ops.size) f.size h2).1 (Nat.le_max_right _ _)) ops.size h2 (Nat.le_refl _) (fun r mi hr1 hr2 => hqcalm r mi (Nat.le_trans (Nat.le_max_left _ _) hr1) hr2)]
          exact ho
        refine ⟨g.le, fun x e1 e2 => ?_, f.size 0 _ (Nat.zero_le _) (Nat.le_refl _), g.fsize, g.fblock, fun b hb ⟨x, i, e1, e2, e3⟩ => ?_, g.fblk, g.os, g.tape, g.output⟩
        · cases e : κ x with
          | none => exact absurd e e2
          | some i =>
            rcases g.who x i e with h | ⟨r, r1, r2, r3, r4⟩
            · rw [e1] at h; cases h
            · exact Nat.le_trans (f.size 0 r (Nat.zero_le _) (by omega)) r3
        · subst e3
          exact g.fown x i e1 (own x i e1 e2) hb
      · intro l l' a1 w1 hll ⟨κ, q, g, hsh, hN, hdef, hS⟩
        have e : ∀ p, p < ops.size → l (ord.getD p ops.size) = l' (ord.getD p ops.size) := fun p hp => hll _ (d.lt p hp)
        refine ⟨κ, q, { g with stage := ?_, who := ?_, late := ?_ }, ?_, hN, hdef, ?_⟩
        · intro p mi hp hm hk; rw [← e p hp]; exact g.stage p mi hp hm hk
        · intro x i ex
          rcases g.who x i ex with h | ⟨r, r1, r2, r3⟩
          · exact .inl h
          · exact .inr ⟨r, r1, by rw [← e r r1]; exact r2, r3⟩
        · intro x i ex ⟨r, r1, r2, r3, r4⟩
          exact g.late x i ex ⟨r, r1, r2, by rw [e r r2]; exact r3, r4⟩
        · intro p hp hlp oi hoi ee hee hbe
          rw [← hll _ (d.rng _ oi hoi ee hee)]
          exact hsh p hp (by rw [e p hp]; exact hlp) oi hoi ee hee hbe
        · intro t ht
          rcases hS t ht with ⟨p, mi, h1, h2, h3, h4, h5, h6⟩ | ⟨h1, h2⟩
          · exact .inl ⟨p, mi, h1, by rw [← e p h1]; exact h2, h3, h4, fun r mr hr hlr => h5 r mr hr (by rw [e r hr]; exact hlr), h6⟩
          · exact .inr ⟨fun r mr hr hlr => h1 r mr hr (by rw [e r hr]; exact hlr), h2⟩
      · have hm := f.size
        have hrk0 : ∀ x i, ι x = some i → max 0 (rk hs ops.size x) = 0 := fun x i e => by
          have := (rk_le (n := ops.size) hm (Nat.zero_le _)).2 (hR'.dom x i e)
          omega
        have hcut : ι.cut (hs 0).size = ι := by
          funext x
          cases e : ι x with
          | none => unfold Map.cut; split <;> first | exact e | rfl
          | some i => exact Map.cut_of (hR'.dom x i e) e
        refine ⟨ι, 0, ⟨Nat.zero_le _, .inl rfl, fun p mi hp hmm hk => by simp, ι.le_refl, fun x i e => .inl e, fun x i e => ?_, fun x y i j hne ex ey ho hl => ?_, fun x i e => Nat.lt_of_lt_of_le (hR'.dom x i e) (hm 0 _ (Nat.zero_le _) (Nat.le_refl _)), hR'.dom, hR'.lt,
          fun x i e ⟨p, _, _, hl, _⟩ => (by cases hl), Nat.le_refl _, fun _ _ _ => rfl, fun x i e ho hb => ?_, fun x i e1 e2 => (by rw [e1] at e2; cases e2), rfl, rfl, rfl⟩, fun q hq hl => (by cases hl), hA.size, hA.defers, fun t ht => .inr ⟨fun r mr hr hl => (by cases hl), hA.val t ht⟩⟩
        · rw [hrk0 x i e, hcut]; exact hR'.obj x i e
        · rw [hrk0 x i ex] at ho; rw [hrk0 y j ey] at hl; exact hR'.sep x y i j hne ex ey ho hl
        · rw [hrk0 x i e] at ho; exact ⟨x, i, e, ho, rfl⟩
    · cases hc
  · cases hc

end
end Go.Proofs.Ytdfmdclfnhgjiaa.Can
