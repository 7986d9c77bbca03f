/- Append and copy.
   Conditions: the two heaps tell of one another. -/
import Derived.Test.YtdfmdclfnhgjiaaCanE
set_option linter.unusedVariables false
set_option linter.unusedSimpArgs false
namespace Go.Proofs.Ytdfmdclfnhgjiaa.Can
open Go

theorem HR.kill {ι : Map} {h : CH} {w : World} (g : HR ι h w) (o : Nat) : HR ι (h.set o (.dead (h.at_ o).kk)) w := by
  refine ⟨fun q j e => ?_, fun q q' j j' hne e e' ho hl => ?_, fun q j e => g.dom q j e, g.lt⟩
  · by_cases hq : q = o
    · subst hq; simp only [CH.set, if_pos]; exact (g.obj q j e).kk
    · simp only [CH.set, if_neg hq]; exact g.obj q j e
  · by_cases hq : q = o
    · subst hq; simp [CH.set, CO.own] at ho
    · by_cases hq' : q' = o
      · subst hq'; simp [CH.set, CO.live] at hl
      · simp only [CH.set, if_neg hq, if_neg hq'] at ho hl
        exact g.sep q q' j j' hne e e' ho hl

theorem Fr.kill (ι : Map) (h : CH) (w : World) (o k : Nat) : Fr ι h w ι (h.set o (.dead k)) w where
  le := ι.le_refl
  new q e hn := absurd e hn
  hsize := Nat.le_refl _
  size := Nat.le_refl _
  block _ _ _ := rfl
  own b hb := by
    rintro ⟨q, j, e, h1, h2⟩
    by_cases hq : q = o
    · subst hq; simp [CH.set, CO.own] at h1
    · simp only [CH.set, if_neg hq] at h1
      exact ⟨q, j, e, h1, h2⟩
  blk q j e n := by rw [e] at n; cases n
  os := rfl
  tape := rfl
  output := rfl

/-- One number gives its block up to a new one. -/
theorem HR.move {ι : Map} {h : CH} {w w' : World} (g : HR ι h w) {o : Nat} {i i' : Info} (e : ι o = some i) (ho : (h.at_ o).own = true) (hb : i'.blk = i.blk) {co : CO} (hco : OR (ι.put h.size i') i' w' co)
    (hof : ∀ b, b ≠ i.blk → w'.heap[b]? = w.heap[b]?) (hsz : w'.heap.size = w.heap.size) : HR (ι.put h.size i') ((h.set o (.dead (h.at_ o).kk)).push co) w' := by
  have hlive : (h.at_ o).live = true := by cases hc : h.at_ o <;> simp_all [CO.own, CO.live]
  have hlt := g.dom o i e
  have hnone := g.none
  have at_old : ∀ q, q ≠ h.size → q ≠ o → ((h.set o (.dead (h.at_ o).kk)).push co).at_ q = h.at_ q := by
    intro q h1 h2; simp [CH.push, CH.set, h1, h2]
  have at_o : ((h.set o (.dead (h.at_ o).kk)).push co).at_ o = .dead (h.at_ o).kk := by
    have : o ≠ h.size := by omega
    simp [CH.push, CH.set, this]
  have at_new : ((h.set o (.dead (h.at_ o).kk)).push co).at_ h.size = co := by simp [CH.push, CH.set]
  refine ⟨fun q j ej => ?_, fun q q' j j' hne ej ej' ho' hl => ?_, fun q j ej => ?_, fun q j ej => ?_⟩
  · by_cases hq : q = h.size
    · subst hq
      rw [Map.put_self] at ej; cases ej
      rw [at_new]; exact hco
    · rw [Map.put_ne _ _ hq] at ej
      by_cases hqo : q = o
      · subst hqo; rw [at_o]; exact (g.obj q j ej).kk
      · rw [at_old q hq hqo]
        exact (g.obj q j ej).mono (Map.le_put hnone) (fun hl => hof _ (fun hbk => g.sep o q i j (Ne.symm hqo) e ej ho hl hbk.symm))
  · by_cases hq : q = h.size
    · subst hq
      rw [Map.put_self] at ej; cases ej
      have hq' : q' ≠ h.size := Ne.symm hne
      rw [Map.put_ne _ _ hq'] at ej'
      by_cases hqo : q' = o
      · subst hqo; rw [at_o] at hl; cases hl
      · rw [at_old q' hq' hqo] at hl
        rw [hb]; exact g.sep o q' i j' (Ne.symm hqo) e ej' ho hl
    · rw [Map.put_ne _ _ hq] at ej
      by_cases hqo : q = o
      · subst hqo; rw [at_o] at ho'; cases ho'
      · rw [at_old q hq hqo] at ho'
        by_cases hq' : q' = h.size
        · subst hq'
          rw [Map.put_self] at ej'; cases ej'
          rw [hb]; exact g.sep q o j i hqo ej e ho' hlive
        · rw [Map.put_ne _ _ hq'] at ej'
          by_cases hqo' : q' = o
          · subst hqo'; rw [at_o] at hl; cases hl
          · rw [at_old q' hq' hqo'] at hl
            exact g.sep q q' j j' hne ej ej' ho' hl
  · by_cases hq : q = h.size
    · subst hq; simp [CH.push, CH.set]
    · rw [Map.put_ne _ _ hq] at ej
      exact Nat.lt_succ_of_lt (g.dom q j ej)
  · rw [hsz]
    by_cases hq : q = h.size
    · subst hq
      rw [Map.put_self] at ej; cases ej
      rw [hb]; exact g.lt o i e
    · rw [Map.put_ne _ _ hq] at ej
      exact g.lt q j ej

theorem Fr.move {ι : Map} {h : CH} {w w' : World} (g : HR ι h w) {o : Nat} {i i' : Info} (e : ι o = some i) (ho : (h.at_ o).own = true) (hb : i'.blk = i.blk) (co : CO)
    (hof : ∀ b, b ≠ i.blk → w'.heap[b]? = w.heap[b]?) (hs : w'.heap.size = w.heap.size) (h1 : w'.os = w.os) (h2 : w'.tape = w.tape) (h3 : w'.output = w.output) : Fr ι h w (ι.put h.size i') ((h.set o (.dead (h.at_ o).kk)).push co) w' where
  le := Map.le_put g.none
  new q eq hn := by
    by_cases hq : q = h.size
    · omega
    · rw [Map.put_ne _ _ hq] at hn; exact absurd eq hn
  hsize := Nat.le_succ _
  size := Nat.le_of_eq hs.symm
  block b hbl hn := hof b (fun eb => hn ⟨o, i, e, ho, eb.symm⟩)
  own b hbl := by
    rintro ⟨q, j, ej, p1, p2⟩
    by_cases hq : q = h.size
    · subst hq
      rw [Map.put_self] at ej; cases ej
      exact ⟨o, i, e, ho, hb.symm.trans p2⟩
    · rw [Map.put_ne _ _ hq] at ej
      by_cases hqo : q = o
      · subst hqo
        have : q ≠ h.size := hq
        simp [CH.push, CH.set, this, CO.own] at p1
      · have : ((h.set o (.dead (h.at_ o).kk)).push co).at_ q = h.at_ q := by simp [CH.push, CH.set, hq, hqo]
        rw [this] at p1
        exact ⟨q, j, ej, p1, p2⟩
  blk q j eq n := by
    by_cases hq : q = h.size
    · subst hq
      rw [Map.put_self] at n; cases n
      exact .inr ⟨o, i, e, ho, hb.symm⟩
    · rw [Map.put_ne _ _ hq, eq] at n; cases n
  os := h1
  tape := h2
  output := h3

theorem growBy_le (n : Nat) : ∀ (r c : Nat), 256 ≤ c → c ≤ 2 * n → Builtin.growBy n r c ≤ 2 * n
  | 0, c, _, h => h
  | r + 1, c, h0, h => by
    unfold Builtin.growBy
    split
    · exact h
    · exact growBy_le n r _ (by omega) (by omega)
theorem nextslicecap_le {n c : Nat} (h : c < n) : Builtin.nextslicecap n c ≤ 2 * n := by
  unfold Builtin.nextslicecap
  split
  · omega
  · split
    · omega
    · exact growBy_le n 4 c (by omega) (by omega)

section
variable {P : Program} {ι : Map} {N : Nat} {ρ : Nat → Value} {a : Act} {w : World} {h : CH} {dst : Option Tmp} {type : TypeId} {pos : String} {after : Array Edge} {guard : Option (Nat × Bool)} {v : Value} {sh : Sh}

/-- What is appended or copied, on both sides. -/
theorem src_sound (hR : HR ι h w) {k : Nat} {x x' : Value} (hv : VR ι x x') {n : Nat} {xs : List Value} (hs : srcC k h x = some (n, xs)) :
    (Builtin.lenOf x').run P w = .ok n w ∧ xs.length = n * k ∧ (∀ v ∈ xs, v.oneCell' = true) ∧ ∀ m, m ≤ n → ∃ xs', VL ι (xs.take (m * k)) xs' ∧ ∀ w1 : World, w1.heap = w.heap → (Builtin.firstCells k m x').run P w1 = .ok xs'.toArray w1 := by
  cases x <;> simp only [srcC] at hs <;> first | (cases hs; done) | skip
  · rename_i s
    split at hs
    · rename_i hk
      subst hk
      simp only [Option.some.injEq, Prod.mk.injEq] at hs
      obtain ⟨rfl, rfl⟩ := hs
      rw [hv.string]
      refine ⟨by simp [Builtin.lenOf], by simp, ?_, fun m hm => ⟨_, VL.self ?_, fun w1 _ => ?_⟩⟩
      · intro v hv; simp only [List.mem_map] at hv; obtain ⟨b, _, rfl⟩ := hv; rfl
      · simp only [bases, List.all_eq_true]
        intro v hv
        have := List.mem_of_mem_take hv
        simp only [List.mem_map] at this; obtain ⟨b, _, rfl⟩ := this; rfl
      · simp only [Builtin.firstCells, Sem.run_pure, Nat.mul_one]
        congr 1
        apply Array.ext'
        rw [ByteArray.data_extract]
        simp [List.extract, List.map_take]
    · cases hs
  · rename_i b n' c
    cases b with
    | none =>
      simp only [srcC] at hs
      split at hs
      · rename_i h0
        simp only [Option.some.injEq, Prod.mk.injEq] at hs
        obtain ⟨rfl, rfl⟩ := hs
        obtain ⟨_, _, z⟩ := hv.slice_none
        rw [z]
        refine ⟨by simp [Builtin.lenOf], by simp, by simp, fun m hm => ⟨[], ?_, fun w1 _ => by simp [Builtin.firstCells]⟩⟩
        simp; exact .nil ι
      · cases hs
    | some b =>
      simp only [srcC] at hs
      split at hs
      · rename_i c0 k' opn rw hc0
        split at hs
        · rename_i hk
          subst hk
          simp only [Option.map_eq_some_iff] at hs
          obtain ⟨cs, hcs, he⟩ := hs
          simp only [Prod.mk.injEq] at he
          obtain ⟨rfl, rfl⟩ := he
          obtain ⟨cc, kk, oo, rr, q1, q2, rfl⟩ := cellsAt_some hcs
          obtain ⟨j, a', c', e1, e2, e3, e4, e5, e6, e7, e8⟩ := hv.slice_inv
          have hO := hR.obj _ _ e1
          rw [q1] at hO
          refine ⟨by rw [e8]; simp [Builtin.lenOf], by simp; omega, ?_, fun m hm => ?_⟩
          · intro v hv
            exact hO.2.2.2.2.1 v (List.mem_of_mem_drop (List.mem_of_mem_take hv))
          · have hmk : m * k' ≤ n' * k' := Nat.mul_le_mul_right _ hm
            by_cases hc0 : c' = 0
            · have hm0 : m = 0 := by omega
              subst hm0
              exact ⟨[], by simp; exact .nil ι, fun w1 _ => by rw [e8]; simp [Builtin.firstCells, loadCells, loadCellsFrom]⟩
            · obtain ⟨e9, e10⟩ := e6.resolve_left hc0
              subst e9
              obtain ⟨cs', p1, p2, p3⟩ := cells_at hR e1 q1 (off := b.off) (n := m * k') (by omega)
              refine ⟨cs', ?_, ?_⟩
              · rw [List.take_take, Nat.min_eq_left hmk]; exact p1
              · intro w1 hw1
                rw [e8]; simp only [Builtin.firstCells]
                exact run_loadCells_at p2 (fun j v' ev => by rw [← p3 j v' ev]; simp [World.cell?, hw1])
        · cases hs
      · cases hs


/-- An append that grows: the new block. -/
theorem grow_run {tys : Array TypeId} {t u e : TypeId} {n b : Nat} {z : Value} {base' : Option Addr} {sLen c' m : Nat} {x' : Value} {old' new' : List Value} (ht0 : tys[0]? = some t) (ht1 : tys[1]? = some u) (hu : P.underlying t = some (.slice e)) (hu2 : ∃ d, P.underlying u = some d ∧ (∀ k, d ≠ .int k))
    (hn : szOf P e = some n) (hb : byOf P e = some b) (hz : zeroOf P e = some z) (hzs : z.cells.size = n) (hn0 : 0 < n) (hb0 : 0 < b) (hneed : c' < sLen + m) (hbytes : (sLen + m) * b ≤ 140737488351232)
    (hlen : (Builtin.lenOf x').run P w = .ok m w) (hold : ∀ w' : World, w'.heap = w.heap → (Builtin.firstCells n sLen (.slice base' sLen c')).run P w' = .ok old'.toArray w') (hnew : ∀ w' : World, w'.heap = w.heap → (Builtin.firstCells n m x').run P w' = .ok new'.toArray w') (type : TypeId) :
    ∃ cap rest w', sLen + m ≤ cap ∧ (Builtin.append_ tys type #[.slice base' sLen c', x']).run P w = .ok (.slice (some ⟨w.heap.size, 0, none⟩) (sLen + m) cap) w' ∧ w'.heap = w.heap.push (.cells (old' ++ new' ++ rest).toArray e (0, 0)) ∧
      rest.length = (cap - (sLen + m)) * n ∧ w'.os = w.os ∧ w'.tape = w.tape ∧ w'.output = w.output := by
  obtain ⟨d, hd, hd2⟩ := hu2
  have hinfo : ∃ i, P.info? e = some i ∧ i.bytes = b := by
    unfold byOf at hb
    cases q : P.info? e with
    | none => rw [q] at hb; cases hb
    | some i => rw [q] at hb; cases hb; exact ⟨i, rfl, rfl⟩
  obtain ⟨i, hi, hib⟩ := hinfo
  generalize hcap : (Question.appendCap (sLen + m) c' e).cut (w.tape w.drawn (.appendCap (sLen + m) c' e)) = cap
  have hle : sLen + m ≤ cap := by rw [← hcap]; simp only [Question.cut]; omega
  have hnot : ¬ (sLen + m ≤ c') := by omega
  have hnext : Builtin.nextslicecap (sLen + m) c' * b ≤ 281474976710656 := by
    have := Nat.mul_le_mul_right b (nextslicecap_le hneed)
    have e2 : 2 * (sLen + m) * b = 2 * ((sLen + m) * b) := Nat.mul_assoc _ _ _
    omega
  have hnext2 : ¬ (Builtin.nextslicecap (sLen + m) c' * i.bytes > 2 ^ 48) := by rw [hib]; omega
  have hdn : (match d with | .int _ => true | _ => false) = false := by
    cases d <;> first | rfl | exact absurd rfl (hd2 _)
  refine ⟨cap, (Builtin.zeroCells z.cells (cap - (sLen + m))).toList, w.drew.alloc (.cells (old'.toArray ++ new'.toArray ++ Builtin.zeroCells z.cells (cap - (sLen + m))) e), hle, ?_, ?_, ?_, rfl, rfl, rfl⟩
  · unfold Builtin.append_
    simp only [ht0, ht1, List.getElem?_toArray, List.getElem?_cons_zero, List.getElem?_cons_succ, Sem.run_bind, run_underlying w hu, Result.andThen_ok, run_sizeOf w hn, run_underlying w hd, Sem.run_pure]
    simp only [Bool.false_eq_true, if_false, Sem.run_bind, hlen, Result.andThen_ok]
    rw [if_neg hnot]
    simp only [Sem.run_bind, run_typeInfo w hi, Result.andThen_ok]
    rw [if_neg (fun q => by rcases q.2 with q | q; exact q.elim; omega)]
    simp only [Sem.run_bind, run_typeInfo w hi, Result.andThen_ok]
    rw [if_neg hnext2]
    have c1 : (choose (Question.appendCap (sLen + m) c' e)).run P w = .ok cap w.drew := by
      rw [run_choose, ← hcap]; rfl
    rw [Sem.run_bind, c1, Result.andThen_ok, Sem.run_bind, run_typeInfo w.drew hi, Result.andThen_ok, Sem.run_bind, run_askRoom, Result.andThen_ok, Sem.run_bind, hold w.drew rfl, Result.andThen_ok]
    rw [if_pos (show (!false) = true from rfl), Sem.run_bind, hnew w.drew rfl, Result.andThen_ok, Sem.run_bind, run_zeroValue w.drew hz, Result.andThen_ok]
    rfl
  · have : old'.toArray ++ new'.toArray ++ Builtin.zeroCells z.cells (cap - (sLen + m)) = (old' ++ new' ++ (Builtin.zeroCells z.cells (cap - (sLen + m))).toList).toArray := by
      apply Array.ext'
      simp only [Array.toList_append]
    rw [this]
    rfl
  · simp [Builtin.zeroCells, hzs]


/-- An append in place. -/
theorem inplace_run {tys : Array TypeId} {t u e : TypeId} {n : Nat} {base' : Option Addr} {sLen c' m : Nat} {x' : Value} {new' : List Value} (ht0 : tys[0]? = some t) (ht1 : tys[1]? = some u) (hu : P.underlying t = some (.slice e)) (hu2 : ∃ d, P.underlying u = some d ∧ (∀ k, d ≠ .int k))
    (hn : szOf P e = some n) (hneed : sLen + m ≤ c') (hlen : (Builtin.lenOf x').run P w = .ok m w) (hnew : (Builtin.firstCells n m x').run P w = .ok new'.toArray w) (type : TypeId) {w' : World}
    (hst : match base' with | some b => (storeCells (b.add (sLen * n)) new').run P w = .ok () w' | none => w' = w) :
    (Builtin.append_ tys type #[.slice base' sLen c', x']).run P w = .ok (.slice base' (sLen + m) c') w' := by
  obtain ⟨d, hd, hd2⟩ := hu2
  unfold Builtin.append_
  simp only [ht0, ht1, List.getElem?_toArray, List.getElem?_cons_zero, List.getElem?_cons_succ, Sem.run_bind, run_underlying w hu, Result.andThen_ok, run_sizeOf w hn, run_underlying w hd, Sem.run_pure]
  have hdn : (match d with | .int _ => true | _ => false) = false := by
    cases d <;> first | rfl | exact absurd rfl (hd2 _)
  simp only [Bool.false_eq_true, if_false, Sem.run_bind, hlen, Result.andThen_ok]
  rw [if_pos hneed, Sem.run_bind, if_pos (show (!false) = true from rfl), hnew, Result.andThen_ok]
  cases base' with
  | none => simp only at hst; subst hst; rfl
  | some b =>
    simp only at hst
    simp only [Sem.run_bind, hst, Result.andThen_ok]
    rfl


theorem app_comp {c : Call} {n b : Nat} (hc : compSh P (.call c) = some (.app n b)) : ∃ args tys t u e d z, c = ⟨.builtin .append, args, tys⟩ ∧ tys[0]? = some t ∧ tys[1]? = some u ∧ P.underlying t = some (.slice e) ∧ P.underlying u = some d ∧ (∀ k, d ≠ .int k) ∧
    szOf P e = some n ∧ byOf P e = some b ∧ zeroOf P e = some z ∧ flat z = true ∧ z.cells.size = n ∧ 0 < n ∧ 0 < b := by
  obtain ⟨callee, args, tys⟩ := c
  cases callee with
  | invoke r m => simp [compSh] at hc
  | value f => cases f <;> simp only [compSh] at hc <;> (repeat' split at hc) <;> cases hc
  | builtin bi =>
    cases bi <;> simp only [compSh] at hc <;> (repeat' split at hc) <;> first | (cases hc; done) | skip
    · rename_i h0 h1 _ _ _ _ hu hd _ _ _ _ _ _ hn hb hz hk
      cases hc
      exact ⟨_, _, _, _, _, _, _, rfl, h0, h1, hu, hd, fun k => (by simp), hn, hb, hz, hk.1, hk.2.1, hk.2.2.2.1, hk.2.2.2.2⟩
    · rename_i h0 h1 _ _ _ hu hd _ _ _ _ _ _ hn hb hz hk
      cases hc
      exact ⟨_, _, _, _, _, _, _, rfl, h0, h1, hu, hd, fun k => (by simp), hn, hb, hz, hk.1, hk.2.1, hk.2.2.2.1, hk.2.2.2.2⟩
    · simp only [Option.map_eq_some_iff] at hc; obtain ⟨_, _, hc⟩ := hc; cases hc


/-- The run of a built-in function of two operands. -/
theorem builtin_run2 {bi : Builtin} {args : Array Operand} {tys : Array TypeId} {s' x' v' : Value} {w' : World} (he : args.toList.map a.eval = [s', x']) (f : Array TypeId → TypeId → Array Value → Sem Value)
    (hf : ∀ consts, Go.builtin bi tys type consts #[s', x'] = (do pure (.value (← f tys type #[s', x'])))) (hr : (f tys type #[s', x']).run P w = .ok v' w') :
    (execOp a.eval ⟨dst, .call ⟨.builtin bi, args, tys⟩, type, pos, after, guard⟩).run P w = .ok (.value v') w' := by
  have : args.map a.eval = #[s', x'] := by apply Array.ext'; simp [he]
  simp only [execOp, resolve, Sem.run_bind, Sem.run_pure, Result.andThen_ok, invoke, this]
  rw [hf, Sem.run_bind, hr]
  rfl

theorem two_of {args : Array Operand} (hA : AR ι N ρ a) (hok : args.toList.all okOpd = true) {s x : Value} (h : args.toList.map (ev ρ) = [s, x]) : ∃ s' x', args.toList.map a.eval = [s', x'] ∧ VR ι s s' ∧ VR ι x x' := by
  have r0 := hA.evs hok
  rw [h] at r0
  obtain ⟨s', y, e1, e2, e3⟩ := r0.cons_inv
  obtain ⟨x', y2, e4, e5, e6⟩ := e3.cons_inv
  rw [e6.nil_inv] at e4
  rw [e4] at e1
  exact ⟨s', x', e1, e2, e5⟩

theorem post_grow {w' : World} {n cap need : Nat} {old old' new new' rest : List Value} {e : TypeId} (hR : HR ι h w) (ho : VL ι old old') (hn : VL ι new new') (h1 : ∀ v ∈ old, v.oneCell' = true) (h2 : ∀ v ∈ new, v.oneCell' = true)
    (hl : (old ++ new).length = need * n) (hc : need ≤ cap) (hw : w'.heap = w.heap.push (.cells (old' ++ new' ++ rest).toArray e (0, 0))) (hr : rest.length = (cap - need) * n) (p1 : w'.os = w.os) (p2 : w'.tape = w.tape) (p3 : w'.output = w.output) :
    Post ι h w (.slice (some ⟨h.size, 0, none⟩) need need) (h.push (.cells (old ++ new) n true true)) (.slice (some ⟨w.heap.size, 0, none⟩) need cap) w' := by
  have hcn : need * n + (cap - need) * n = cap * n := by rw [← Nat.add_mul]; congr 1; omega
  have hle : need * n ≤ cap * n := Nat.mul_le_mul_right _ hc
  let i : Info := ⟨w.heap.size, 0, n, need * n, true, cap * n⟩
  have hon := ho.append hn
  refine ⟨ι.put h.size i, ?_, hR.push _ (.cells (old' ++ new' ++ rest).toArray e (0, 0)) i rfl ?_ hw, Fr.push hR _ _ i rfl hw p1 p2 p3⟩
  · refine .slice ⟨h.size, 0, none⟩ _ i _ _ _ (Map.put_self _ _ _) rfl (Nat.le_refl _) (by simp [i]) hc (.inr ⟨rfl, by simp [i]⟩) (fun hne => absurd ⟨rfl, by simp [i]⟩ hne)
  · intro w2 hw2
    refine ⟨rfl, hl.symm, rfl, by rw [hl]; simp only [i]; omega, ?_, (old' ++ new' ++ rest).toArray, e, (0, 0), by rw [hw2]; simp [i], ?_, ?_, ?_⟩
    · intro v hv
      rcases List.mem_append.1 hv with hv | hv
      · exact h1 v hv
      · exact h2 v hv
    · simp only [List.size_toArray, List.length_append, i]
      have := hon.1
      simp only [List.length_append] at this hl
      omega
    · intro j v ev
      obtain ⟨v', q1, q2⟩ := hon.get ev
      refine ⟨v', ?_, q2.mono (Map.le_put hR.none)⟩
      simp only [i, Nat.zero_add, List.getElem?_toArray]
      rw [List.getElem?_append_left (List.getElem?_eq_some_iff.1 q1).1]; exact q1
    · intro _ j _ hj; simp at hj

theorem app_sound (hA : AR ι N ρ a) (hR : HR ι h w) {c : Call} {n b : Nat} (hc : compSh P (.call c) = some (.app n b)) (hok : (opdsOf (.call c)).all okOpd = true) {s x : Value} (hv : (opdsOf (.call c)).map (ev ρ) = [s, x])
    {h' : CH} (hs : appC n b s x h = some (v, h')) : ∃ v' w', (execOp a.eval ⟨dst, .call c, type, pos, after, guard⟩).run P w = .ok (.value v') w' ∧ Post ι h w v h' v' w' := by
  obtain ⟨args, tys, t, u, e, d, z, rfl, h0, h1, hu, hd, hd2, hn, hb, hz, hfl, hzs, hn0, hb0⟩ := app_comp hc
  have hops : opdsOf (.call ⟨.builtin .append, args, tys⟩) = args.toList := rfl
  rw [hops] at hok hv
  obtain ⟨s', x', he, rs, rx⟩ := two_of hA hok hv
  have done : ∀ v' w', (Builtin.append_ tys type #[s', x']).run P w = .ok v' w' → (execOp a.eval ⟨dst, .call ⟨.builtin .append, args, tys⟩, type, pos, after, guard⟩).run P w = .ok (.value v') w' :=
    fun v' w' hr => builtin_run2 he Builtin.append_ (fun _ => rfl) hr
  unfold appC at hs
  split at hs
  · cases hs
  · rename_i m xs hsrc
    obtain ⟨s1, s2, s3, s4⟩ := src_sound (P := P) hR rx hsrc
    obtain ⟨xs', x1, x2⟩ := s4 m (Nat.le_refl _)
    rw [List.take_of_length_le (by omega)] at x1
    split at hs
    · -- nil
      obtain ⟨_, _, zs⟩ := rs.slice_none
      subst zs
      split at hs
      · rename_i hm
        simp only [Option.some.injEq, Prod.mk.injEq] at hs
        obtain ⟨rfl, rfl⟩ := hs
        subst hm
        exact ⟨_, w, done _ _ (inplace_run h0 h1 hu ⟨d, hd, hd2⟩ hn (Nat.le_refl _) s1 (x2 w rfl) type rfl), ι, .base _ rfl, hR, Fr.refl _ _ _⟩
      · rename_i hm
        split at hs
        · rename_i hbound
          simp only [Option.some.injEq, Prod.mk.injEq] at hs
          obtain ⟨rfl, rfl⟩ := hs
          obtain ⟨cap, rest, w', g1, g2, g3, g4, g5, g6, g7⟩ := grow_run (old' := []) h0 h1 hu ⟨d, hd, hd2⟩ hn hb hz hzs hn0 hb0 (sLen := 0) (c' := 0) (m := m) (base' := none) (by omega) (by rw [Nat.zero_add]; exact hbound.1) s1
            (fun w' _ => by simp [Builtin.firstCells]) x2 type
          rw [Nat.zero_add] at g1 g2 g4
          exact ⟨_, w', done _ _ g2, post_grow hR (VL.nil ι) x1 (by simp) s3 (need := m) (by simp [s2]) g1 g3 g4 g5 g6 g7⟩
        · cases hs
    · rename_i base len cap
      split at hs
      · rename_i c k' opn rw hcb
        split at hs
        · rename_i hk
          subst hk
          obtain ⟨j, a', c', e1, e2, e3, e4, e5, e6, e7, e8⟩ := rs.slice_inv
          subst e8
          have hO := hR.obj _ _ e1
          rw [hcb] at hO
          obtain ⟨o1, o2, o3, o4, o0, C, te, fz, o5, o6, o7, o8⟩ := hO
          rw [o1] at e4 e6 e7
          split at hs
          · rename_i hin
            split at hs
            · rename_i hm
              simp only [Option.some.injEq, Prod.mk.injEq] at hs
              obtain ⟨rfl, rfl⟩ := hs
              subst hm
              have hx0 : xs' = [] := by
                have := x1.1
                rw [s2] at this
                simpa using this.symm
              subst hx0
              have := inplace_run (base' := some a') (sLen := len) (c' := c') h0 h1 hu ⟨d, hd, hd2⟩ hn (by omega) s1 (x2 w rfl) type (w' := w) rfl
              exact ⟨_, w, done _ _ this, ι, rs, hR, Fr.refl _ _ _⟩
            · rename_i hm
              simp only [Option.map_eq_some_iff] at hs
              obtain ⟨h2, hst, hs⟩ := hs
              simp only [Prod.mk.injEq] at hs
              obtain ⟨rfl, rfl⟩ := hs
              have hc0 : c' ≠ 0 := by omega
              obtain ⟨e9, e10⟩ := e6.resolve_left hc0
              subst e9
              obtain ⟨w', q1, q2, q3⟩ := storeC_sound (P := P) (b := ⟨base.block, base.off + len * k', none⟩) hR e1 x1 s3 hst
              have hadd : ({ block := j.blk, off := j.dl + base.off, spot := none } : Addr).add (len * k') = ⟨j.blk, j.dl + (base.off + len * k'), none⟩ := by
                rw [Addr.add_lit, Nat.add_assoc]
              have := inplace_run (base' := some ⟨j.blk, j.dl + base.off, none⟩) (sLen := len) (c' := c') h0 h1 hu ⟨d, hd, hd2⟩ hn (by omega) s1 (x2 w rfl) type (w' := w') (by simp only [hadd]; exact q1)
              exact ⟨_, w', done _ _ this, ι, .slice base _ j _ _ _ e1 e2 hin (by rw [o1]; exact e4) e5 (.inr ⟨rfl, by rw [o1]; exact e10⟩) (by rw [o1]; exact e7), q2, q3⟩
          · rename_i hout
            split at hs
            · rename_i hbound
              have hold : ∃ old', VL ι ((c.drop base.off).take (len * k')) old' ∧ ∀ w1 : World, w1.heap = w.heap → (Builtin.firstCells k' len (.slice (some a') len c')).run P w1 = .ok old'.toArray w1 := by
                by_cases hc0 : c' = 0
                · have hl0 : len = 0 := by omega
                  subst hl0
                  exact ⟨[], by simp; exact .nil ι, fun w1 _ => by simp [Builtin.firstCells, loadCells, loadCellsFrom]⟩
                · obtain ⟨e9, e10⟩ := e6.resolve_left hc0
                  subst e9
                  have hle : len * k' ≤ cap * k' := Nat.mul_le_mul_right _ e3
                  obtain ⟨cs', p1, p2, p3⟩ := cells_at hR e1 hcb (off := base.off) (n := len * k') (by omega)
                  refine ⟨cs', p1, fun w1 hw1 => ?_⟩
                  simp only [Builtin.firstCells]
                  exact run_loadCells_at p2 (fun j v' ev => by rw [← p3 j v' ev]; simp [World.cell?, hw1])
              obtain ⟨old', y1, y2⟩ := hold
              have hle : len * k' ≤ cap * k' := Nat.mul_le_mul_right _ e3
              have oldlen : ((c.drop base.off).take (len * k')).length = len * k' := by simp; omega
              have oldone : ∀ v ∈ (c.drop base.off).take (len * k'), v.oneCell' = true := fun v hv => o0 v (List.mem_of_mem_drop (List.mem_of_mem_take hv))
              have hnl : ((c.drop base.off).take (len * k') ++ xs).length = (len + m) * k' := by
                rw [List.length_append, oldlen, s2, Nat.add_mul]
              have one : ∀ v ∈ (c.drop base.off).take (len * k') ++ xs, v.oneCell' = true := by
                intro v hv
                rcases List.mem_append.1 hv with hv | hv
                · exact oldone v hv
                · exact s3 v hv
              -- the machine's own growth
              have grow : c' < len + m → ∀ h1', HR ι h1' w → Fr ι h w ι h1' w → h1'.size = h.size → ∃ v' w', (execOp a.eval ⟨dst, .call ⟨.builtin .append, args, tys⟩, type, pos, after, guard⟩).run P w = .ok (.value v') w' ∧
                  Post ι h w (.slice (some ⟨h.size, 0, none⟩) (len + m) (len + m)) (h1'.push (.cells ((c.drop base.off).take (len * k') ++ xs) k' true true)) v' w' := by
                intro hlt h1' hR1 hF1 hsz
                obtain ⟨cap2, rest, w', g1, g2, g3, g4, g5, g6, g7⟩ := grow_run (old' := old') h0 h1 hu ⟨d, hd, hd2⟩ hn hb hz hzs hn0 hb0 (sLen := len) (c' := c') (m := m) (base' := some a') hlt hbound.1 s1 y2 x2 type
                obtain ⟨κ, p1, p2, p3⟩ := post_grow hR1 y1 x1 oldone s3 hnl g1 g3 g4 g5 g6 g7
                rw [hsz] at p1
                exact ⟨_, w', done _ _ g2, κ, p1, p2, hF1.trans p3⟩
              split at hs
              · rename_i hop
                split at hs
                · rename_i hrw
                  subst hrw
                  simp only [Option.some.injEq, Prod.mk.injEq] at hs
                  obtain ⟨rfl, rfl⟩ := hs
                  by_cases hlt : c' < len + m
                  · have hkk : (h.at_ base.block).kk = k' := by rw [hcb]; rfl
                    have hR' := hR.kill base.block
                    rw [hkk] at hR'
                    exact grow hlt _ hR' (Fr.kill _ _ _ _ _) rfl
                  · -- in place: the block goes over to the new number
                    have hc0 : c' ≠ 0 := by omega
                    obtain ⟨e9, e10⟩ := e6.resolve_left hc0
                    subst e9
                    have hc2 : (len + m) * k' ≤ c' * k' := Nat.mul_le_mul_right _ (by omega)
                    have hm2 : (len + m) * k' = len * k' + m * k' := Nat.add_mul _ _ _
                    have hxl : xs'.length = m * k' := by rw [← x1.1, s2]
                    have hxone : ∀ v ∈ xs', v.oneCell' = true := by
                      intro v hm'
                      obtain ⟨jj, hj, hjv⟩ := List.getElem_of_mem hm'
                      have hj2 : jj < xs.length := x1.1 ▸ hj
                      have := x1.2 jj xs[jj] v (List.getElem?_eq_getElem hj2) (by rw [List.getElem?_eq_getElem hj, hjv])
                      rw [this.one]; exact s3 _ (List.getElem_mem hj2)
                    obtain ⟨w', q1, q2, q3, q4, q5, q6, q7⟩ := storeCells_blk (P := P) (j.dl + (base.off + len * k')) xs' 0 w C o5 (by rw [o6]; exact o8 rfl) (by omega) hxone
                    have hadd : ({ block := j.blk, off := j.dl + base.off, spot := none } : Addr).add (len * k') = ⟨j.blk, j.dl + (base.off + len * k'), none⟩ := by
                      rw [Addr.add_lit, Nat.add_assoc]
                    have hrun := inplace_run (base' := some ⟨j.blk, j.dl + base.off, none⟩) (sLen := len) (c' := c') h0 h1 hu ⟨d, hd, hd2⟩ hn (by omega) s1 (x2 w rfl) type (w' := w') (by simp only [hadd]; exact q1)
                    have hown : (h.at_ base.block).own = true := by rw [hcb]; rfl
                    let i' : Info := ⟨j.blk, j.dl + base.off, k', (len + m) * k', true, j.tot⟩
                    have hkk : (h.at_ base.block).kk = k' := by rw [hcb]; rfl
                    have hor : OR (ι.put h.size i') i' w' (.cells ((c.drop base.off).take (len * k') ++ xs) k' true true) := by
                      refine ⟨rfl, hnl.symm, rfl, by rw [hnl]; simp only [i']; omega, one, (setAt C.toList (j.dl + (base.off + len * k')) xs').toArray, te, fz, by simpa using q2, ?_, ?_, ?_⟩
                      · simp only [List.size_toArray, i']
                        rw [setAt_length (by rw [hxl]; simp; omega)]; simpa using o6
                      · intro jj v ev
                        simp only [i', List.getElem?_toArray, setAt]
                        rw [List.append_assoc]
                        by_cases hjj : jj < len * k'
                        · rw [List.getElem?_append_left (by rw [oldlen]; exact hjj), List.getElem?_take, if_pos hjj, List.getElem?_drop] at ev
                          obtain ⟨v', r1, r2⟩ := o7 _ v ev
                          refine ⟨v', ?_, r2.mono (Map.le_put hR.none)⟩
                          rw [List.getElem?_append_left (by simp; omega), List.getElem?_take, if_pos (by omega), Nat.add_assoc, Array.getElem?_toList]; exact r1
                        · rw [List.getElem?_append_right (by rw [oldlen]; omega), oldlen] at ev
                          obtain ⟨v', r1, r2⟩ := x1.get ev
                          have hlt2 := (List.getElem?_eq_some_iff.1 r1).1
                          refine ⟨v', ?_, r2.mono (Map.le_put hR.none)⟩
                          have et : (C.toList.take (j.dl + (base.off + len * k'))).length = j.dl + (base.off + len * k') := by simp; omega
                          rw [List.getElem?_append_right (by rw [et]; omega), et, List.getElem?_append_left (by omega), ← r1]
                          congr 1; omega
                      · intro _ jj hj; exact o8 rfl jj hj
                    refine ⟨_, w', done _ _ hrun, ι.put h.size i', ?_, by have hm := hR.move (i' := i') e1 hown rfl hor q3 q4; rw [hkk] at hm; exact hm, by have hm := Fr.move hR (i' := i') e1 hown rfl (.cells ((c.drop base.off).take (len * k') ++ xs) k' true true) q3 q4 q5 q6 q7; rw [hkk] at hm; exact hm⟩
                    · refine .slice ⟨h.size, 0, none⟩ _ i' _ _ _ (Map.put_self _ _ _) rfl (Nat.le_refl _) (by simp [i']) (by omega) (.inr ⟨by simp [i'], by simp only [i']; omega⟩) (fun hne => absurd ⟨rfl, by simp [i']⟩ hne)
                · cases hs
              · rename_i hop
                simp only [Option.some.injEq, Prod.mk.injEq] at hs
                obtain ⟨rfl, rfl⟩ := hs
                have hcc := e7 (fun ⟨z1, z2⟩ => hop ⟨by rw [← o3]; exact z1, by rw [← o2]; exact z2⟩)
                exact grow (by omega) h hR (Fr.refl _ _ _) rfl
            · cases hs
        · cases hs
      · cases hs
    · cases hs


theorem cpy_comp {c : Call} {n : Nat} (hc : compSh P (.call c) = some (.cpy n)) : ∃ args tys t e, c = ⟨.builtin .copy, args, tys⟩ ∧ tys[0]? = some t ∧ P.underlying t = some (.slice e) ∧ szOf P e = some n ∧ 0 < n := by
  obtain ⟨callee, args, tys⟩ := c
  cases callee with
  | invoke r m => simp [compSh] at hc
  | value f => cases f <;> simp only [compSh] at hc <;> (repeat' split at hc) <;> cases hc
  | builtin bi =>
    cases bi <;> simp only [compSh] at hc <;> (repeat' split at hc) <;> first | (cases hc; done) | skip
    · simp only [Option.map_eq_some_iff] at hc; obtain ⟨_, _, hc⟩ := hc; cases hc
    · rename_i h0 _ _ hu _ _ hn hk
      cases hc
      exact ⟨_, _, _, _, rfl, h0, hu, hn, hk⟩

theorem cpy_sound (hA : AR ι N ρ a) (hR : HR ι h w) {c : Call} {n : Nat} (hc : compSh P (.call c) = some (.cpy n)) (hok : (opdsOf (.call c)).all okOpd = true) {s x : Value} (hv : (opdsOf (.call c)).map (ev ρ) = [s, x])
    {h' : CH} (hs : cpyC n s x h = some (v, h')) : ∃ v' w', (execOp a.eval ⟨dst, .call c, type, pos, after, guard⟩).run P w = .ok (.value v') w' ∧ Post ι h w v h' v' w' := by
  obtain ⟨args, tys, t, e, rfl, h0, hu, hn, hn0⟩ := cpy_comp hc
  have hops : opdsOf (.call ⟨.builtin .copy, args, tys⟩) = args.toList := rfl
  rw [hops] at hok hv
  obtain ⟨s', x', he, rs, rx⟩ := two_of hA hok hv
  have done : ∀ v' w', (Builtin.copy_ tys type #[s', x']).run P w = .ok v' w' → (execOp a.eval ⟨dst, .call ⟨.builtin .copy, args, tys⟩, type, pos, after, guard⟩).run P w = .ok (.value v') w' :=
    fun v' w' hr => builtin_run2 he Builtin.copy_ (fun _ => rfl) hr
  have run : ∀ base' len c' m xs' w', s' = .slice base' len c' → (Builtin.lenOf x').run P w = .ok m w → (Builtin.firstCells n (min m len) x').run P w = .ok (List.toArray xs') w →
      (match base' with | some b => (storeCells b xs').run P w = .ok () w' | none => w' = w) → (Builtin.copy_ tys type #[s', x']).run P w = .ok (.int .i64 (min m len : Nat)) w' := by
    intro base' len c' m xs' w' e1 e2 e3 e4
    subst e1
    unfold Builtin.copy_
    simp only [h0, List.getElem?_toArray, List.getElem?_cons_zero, List.getElem?_cons_succ, Sem.run_bind, run_underlying w hu, Result.andThen_ok, run_sizeOf w hn, e2]
    have e3' : (Builtin.firstCells n (m.min len) x').run P w = .ok (List.toArray xs') w := e3
    rw [e3', Result.andThen_ok]
    cases base' with
    | none => simp only at e4; subst e4; rfl
    | some b => simp only at e4; simp only [Sem.run_bind, e4, Result.andThen_ok]; rfl
  unfold cpyC at hs
  split at hs
  · rename_i m xs len0 cap0 hsrc
    simp only [Option.some.injEq, Prod.mk.injEq] at hs
    obtain ⟨rfl, rfl⟩ := hs
    obtain ⟨z1, z2, z3⟩ := rs.slice_none
    subst z1
    obtain ⟨s1, s2, s3, s4⟩ := src_sound (P := P) hR rx hsrc
    obtain ⟨xs', x1, x2⟩ := s4 0 (Nat.zero_le _)
    have := run none 0 0 m xs' w z3 s1 (by rw [Nat.min_zero]; exact x2 w rfl) rfl
    rw [Nat.min_zero] at this
    exact ⟨_, w, done _ _ this, ι, .base _ rfl, hR, Fr.refl _ _ _⟩
  · rename_i m xs base len cap hsrc
    obtain ⟨s1, s2, s3, s4⟩ := src_sound (P := P) hR rx hsrc
    obtain ⟨xs', x1, x2⟩ := s4 (min m len) (Nat.min_le_left _ _)
    obtain ⟨j, a', c', e1, e2, e3, e4, e5, e6, e7, e8⟩ := rs.slice_inv
    split at hs
    · rename_i cc k' opn rw hcb
      split at hs
      · rename_i hk
        subst hk
        split at hs
        · rename_i hm
          simp only [Option.some.injEq, Prod.mk.injEq] at hs
          obtain ⟨rfl, rfl⟩ := hs
          have hx0 : xs' = [] := by
            have := x1.1
            rw [hm] at this
            simpa using this.symm
          subst hx0
          have := run (some a') len c' m [] w e8 s1 (x2 w rfl) rfl
          rw [hm] at this
          exact ⟨_, w, done _ _ this, ι, .base _ rfl, hR, Fr.refl _ _ _⟩
        · rename_i hm
          simp only [Option.map_eq_some_iff] at hs
          obtain ⟨h2, hst, hs⟩ := hs
          simp only [Prod.mk.injEq] at hs
          obtain ⟨rfl, rfl⟩ := hs
          have hc0 : c' ≠ 0 := by omega
          obtain ⟨e9, e10⟩ := e6.resolve_left hc0
          subst e9
          obtain ⟨w', q1, q2, q3⟩ := storeC_sound (P := P) (b := ⟨base.block, base.off, base.spot⟩) hR e1 x1 (fun v hv => s3 v (List.mem_of_mem_take hv)) hst
          exact ⟨_, w', done _ _ (run _ _ _ _ _ _ e8 s1 (x2 w rfl) q1), ι, .base _ rfl, q2, q3⟩
      · cases hs
    · cases hs
  · cases hs

theorem appZ_comp {c : Call} {n b : Nat} {zs : List Value} (hc : compSh P (.call c) = some (.appZ n b zs)) : ∃ args tys t u e z, c = ⟨.builtin .append, args, tys⟩ ∧ tys[0]? = some t ∧ tys[1]? = some u ∧ P.underlying t = some (.slice e) ∧ P.underlying u = some (.int .i64) ∧
    szOf P e = some n ∧ byOf P e = some b ∧ zeroOf P e = some z ∧ flat z = true ∧ z.cells.size = n ∧ (z.cells.toList.all (·.oneCell')) = true ∧ 0 < n ∧ 0 < b ∧ zs = z.cells.toList := by
  obtain ⟨callee, args, tys⟩ := c
  cases callee with
  | invoke r m => simp [compSh] at hc
  | value f => cases f <;> simp only [compSh] at hc <;> (repeat' split at hc) <;> cases hc
  | builtin bi =>
    cases bi <;> simp only [compSh] at hc <;> (repeat' split at hc) <;> first | (cases hc; done) | skip
    · rename_i h0 h1 _ _ _ hu hd _ _ _ _ _ _ hn hb hz hk
      cases hc
      exact ⟨_, _, _, _, _, _, rfl, h0, h1, hu, hd, hn, hb, hz, hk.1, hk.2.1, hk.2.2.1, hk.2.2.2.1, hk.2.2.2.2, rfl⟩
    · simp only [Option.map_eq_some_iff] at hc; obtain ⟨_, _, hc⟩ := hc; cases hc

theorem appZ_sound (hA : AR ι N ρ a) (hR : HR ι h w) {c : Call} {n b : Nat} {zs : List Value} (hc : compSh P (.call c) = some (.appZ n b zs)) (hok : (opdsOf (.call c)).all okOpd = true) {s x : Value} (hv : (opdsOf (.call c)).map (ev ρ) = [s, x])
    {h' : CH} (hs : appZC n b zs s x h = some (v, h')) : ∃ v' w', (execOp a.eval ⟨dst, .call c, type, pos, after, guard⟩).run P w = .ok (.value v') w' ∧ Post ι h w v h' v' w' := by
  obtain ⟨args, tys, t, u, e, z, rfl, ht0, ht1, hu, hd, hn, hb, hz, hfl, hzs, hone, hn0, hb0, rfl⟩ := appZ_comp hc
  have hops : opdsOf (.call ⟨.builtin .append, args, tys⟩) = args.toList := rfl
  rw [hops] at hok hv
  obtain ⟨s', x', he, rs, rx⟩ := two_of hA hok hv
  unfold appZC at hs
  split at hs
  · rename_i k m
    split at hs
    · rename_i hbound
      obtain ⟨b1, b2, b3⟩ := hbound
      simp only [Option.some.injEq, Prod.mk.injEq] at hs
      obtain ⟨rfl, rfl⟩ := hs
      obtain ⟨_, _, zs'⟩ := rs.slice_none
      subst zs'
      have hx' : x' = .int k m := rx.of_base rfl
      subst hx'
      obtain ⟨m, rfl⟩ : ∃ m' : Nat, m = (m' : Int) := ⟨m.toNat, by omega⟩
      simp only [Int.toNat_natCast]
      have hinfo : ∃ i, P.info? e = some i ∧ i.bytes = b := by
        unfold byOf at hb
        cases q : P.info? e with
        | none => rw [q] at hb; cases hb
        | some i => rw [q] at hb; cases hb; exact ⟨i, rfl, rfl⟩
      obtain ⟨i, hi, hib⟩ := hinfo
      generalize hcap : (Question.appendCap (0 + m) 0 e).cut (w.tape w.drawn (.appendCap (0 + m) 0 e)) = cap
      have hle : 0 + m ≤ cap := by rw [← hcap]; simp only [Question.cut]; omega
      have w1 : IntKind.i64.wrap (m : Int) = m := wrap_in (by omega) (by omega)
      have hmb : m * b ≤ 140737488351232 := by
        rw [← Int.natCast_mul] at b2
        omega
      have hmi : (m : Int) * (i.bytes : Int) = ((m * b : Nat) : Int) := by rw [hib]; push_cast; rfl
      have hnext : Builtin.nextslicecap (0 + m) 0 * b ≤ 281474976710656 := by
        have := Nat.mul_le_mul_right b (nextslicecap_le (n := 0 + m) (c := 0) (by omega))
        have e2 : 2 * (0 + m) * b = 2 * (m * b) := by rw [Nat.zero_add, Nat.mul_assoc]
        omega
      have hnext2 : ¬ (Builtin.nextslicecap (0 + m) 0 * i.bytes > 2 ^ 48) := by rw [hib]; omega
      have hnz : ¬ m * n = 0 := by
        intro q
        rcases Nat.mul_eq_zero.1 q with q | q <;> omega
      have hz0 := VL.replicate_flatten (flat_cells (ι := ι) hfl) m
      have hones : ∀ v ∈ (List.replicate m z.cells.toList).flatten, v.oneCell' = true := by
        intro v hv
        simp only [List.mem_flatten, List.mem_replicate] at hv
        obtain ⟨l, ⟨_, rfl⟩, hv⟩ := hv
        exact List.all_eq_true.1 hone v hv
      have hlen : ((List.replicate m z.cells.toList).flatten).length = m * n := by simp [hzs]
      have hzc : Builtin.zeroCells z.cells m = (List.replicate m z.cells.toList).flatten.toArray := by
        have := zeros_eq z.cells (by omega) m
        unfold Builtin.zeroCells
        exact this
      refine ⟨.slice (some ⟨w.heap.size, 0, none⟩) (0 + m) cap, w.drew.alloc (.cells (#[] ++ (List.replicate m z.cells.toList).flatten.toArray ++ Builtin.zeroCells z.cells (cap - (0 + m))) e), builtin_run2 he Builtin.append_ (fun _ => rfl) ?_, ?_⟩
      · unfold Builtin.append_
        simp only [ht0, ht1, List.getElem?_toArray, List.getElem?_cons_zero, List.getElem?_cons_succ, Sem.run_bind, run_underlying w hu, Result.andThen_ok, run_sizeOf w hn, run_underlying w hd, Sem.run_pure]
        simp only [if_true, Sem.run_bind, run_asInt, Result.andThen_ok, w1]
        rw [if_neg (by omega)]
        simp only [Sem.run_bind, Sem.run_pure, Result.andThen_ok, run_typeInfo w hi, hmi]
        rw [if_neg (by omega)]
        simp only [Sem.run_bind, Sem.run_pure, Result.andThen_ok, Int.toNat_natCast]
        rw [if_neg (show ¬ (0 + m ≤ 0) by omega)]
        simp only [Sem.run_bind, run_typeInfo w hi, Result.andThen_ok]
        rw [if_neg (fun q => by have := q.1; have hmx : IntKind.i64.max = 9223372036854775807 := by decide
                                rw [hmx] at this; omega)]
        simp only [Sem.run_bind, run_typeInfo w hi, Result.andThen_ok]
        rw [if_neg hnext2]
        have c1 : (choose (Question.appendCap (0 + m) 0 e)).run P w = .ok cap w.drew := by
          rw [run_choose, ← hcap]; rfl
        rw [Sem.run_bind, c1, Result.andThen_ok, Sem.run_bind, run_typeInfo w.drew hi, Result.andThen_ok, Sem.run_bind, run_askRoom, Result.andThen_ok, Sem.run_bind]
        simp only [Builtin.firstCells, Sem.run_pure, Result.andThen_ok, Bool.not_true, Bool.false_eq_true, if_false]
        rw [if_neg hnz]
        simp only [Sem.run_bind, run_zeroValue w.drew hz, Sem.run_pure, Result.andThen_ok, hzc]
        rfl
      · have hw2 : (w.drew.alloc (.cells (#[] ++ (List.replicate m z.cells.toList).flatten.toArray ++ Builtin.zeroCells z.cells (cap - (0 + m))) e)).heap = w.heap.push (.cells ([] ++ (List.replicate m z.cells.toList).flatten ++ (Builtin.zeroCells z.cells (cap - (0 + m))).toList).toArray e (0, 0)) := by
          have : #[] ++ (List.replicate m z.cells.toList).flatten.toArray ++ Builtin.zeroCells z.cells (cap - (0 + m)) = ([] ++ (List.replicate m z.cells.toList).flatten ++ (Builtin.zeroCells z.cells (cap - (0 + m))).toList).toArray := by
            apply Array.ext'
            simp only [Array.toList_append, List.nil_append]
          rw [this]
          rfl
        have := post_grow (n := n) (need := m) (cap := cap) (old := []) (old' := []) hR (VL.nil ι) hz0 (by simp) hones (by simpa using hlen) (by omega) hw2 (by simp [Builtin.zeroCells, hzs]) rfl rfl rfl
        rw [List.nil_append] at this
        rw [Nat.zero_add m] at *
        exact this
    · cases hs
  · cases hs

end
end Go.Proofs.Ytdfmdclfnhgjiaa.Can
