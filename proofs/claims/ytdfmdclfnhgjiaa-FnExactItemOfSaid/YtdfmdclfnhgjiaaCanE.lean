/- The operations that read, make or write: what the short form does over the second heap, the machine does over its own.
   Conditions: the two heaps tell of one another. -/
import Derived.Test.YtdfmdclfnhgjiaaCanD
set_option linter.unusedVariables false
set_option linter.unusedSimpArgs false
namespace Go.Proofs.Ytdfmdclfnhgjiaa.Can
open Go

theorem cell?_blk {w : World} {g : Nat} {C : Array Value} {e : TypeId} {fz : Nat × Nat} (h : w.heap[g]? = some (.cells C e fz)) (o : Nat) : w.cell? ⟨g, o, none⟩ = C[o]? := by
  simp [World.cell?, h]
theorem frozen?_blk {w : World} {g : Nat} {C : Array Value} {e : TypeId} {fz : Nat × Nat} (h : w.heap[g]? = some (.cells C e fz)) (o : Nat) : w.frozen? ⟨g, o, none⟩ = (decide (fz.1 ≤ o) && decide (o < fz.2)) := by
  simp [World.frozen?, h]

/-- Cells that are read, on both sides. -/
theorem cells_at {ι : Map} {h : CH} {w : World} (hR : HR ι h w) {o : Nat} {i : Info} (e : ι o = some i) {c : List Value} {k : Nat} {opn rw : Bool} (hc : h.at_ o = .cells c k opn rw) {off n : Nat} (hle : off + n ≤ c.length) :
    ∃ cs', VL ι ((c.drop off).take n) cs' ∧ cs'.length = n ∧ ∀ (j : Nat) (v' : Value), cs'[j]? = some v' → w.cell? ⟨i.blk, i.dl + off + j, none⟩ = some v' := by
  have hO := hR.obj o i e
  rw [hc] at hO
  obtain ⟨h1, h2, h3, h4, h0, C, t, fz, h5, h6, h7, h8⟩ := hO
  refine ⟨(C.toList.drop (i.dl + off)).take n, ⟨?_, ?_⟩, ?_, ?_⟩
  · simp only [List.length_take, List.length_drop, Array.length_toList]; omega
  · intro j u u' e1 e2
    rw [List.getElem?_take] at e1 e2
    split at e1
    · rename_i hj
      rw [if_pos hj] at e2
      rw [List.getElem?_drop] at e1 e2
      obtain ⟨v', q1, q2⟩ := h7 _ u e1
      rw [Array.getElem?_toList, Nat.add_assoc, q1] at e2
      cases e2; exact q2
    · cases e1
  · simp only [List.length_take, List.length_drop, Array.length_toList]; omega
  · intro j v' e1
    rw [List.getElem?_take] at e1
    split at e1
    · rw [List.getElem?_drop, Array.getElem?_toList] at e1
      rw [cell?_blk h5]; exact e1
    · cases e1

theorem cellsAt_some {h : CH} {b : Addr} {n : Nat} {cs : List Value} (e : cellsAt h b n = some cs) : ∃ c k opn rw, h.at_ b.block = .cells c k opn rw ∧ b.off + n ≤ c.length ∧ cs = (c.drop b.off).take n := by
  unfold cellsAt at e
  split at e
  · rename_i c k opn rw hc
    split at e
    · rename_i hl; cases e; exact ⟨c, k, opn, rw, hc, hl, rfl⟩
    · cases e
  · cases e

section
variable {P : Program} {ι : Map} {N : Nat} {ρ : Nat → Value} {a : Act} {w : World} {h : CH} {dst : Option Tmp} {type : TypeId} {pos : String} {after : Array Edge} {guard : Option (Nat × Bool)} {v : Value} {sh : Sh}

theorem run_loadCells_at {g o : Nat} {cs' : List Value} {n : Nat} (hl : cs'.length = n) (hcell : ∀ (j : Nat) (v' : Value), cs'[j]? = some v' → w.cell? ⟨g, o + j, none⟩ = some v') : (loadCells ⟨g, o, none⟩ n).run P w = .ok cs'.toArray w := by
  subst hl
  refine run_loadCells_list w _ cs' (fun j v e => ?_)
  rw [Addr.add_lit]; exact hcell j v e

theorem load_sound (hA : AR ι N ρ a) (hR : HR ι h w) {t : TypeId} {x : Operand} (hwf : ∀ t n, szOf P t = some n → (P.underlying t).isSome = true) (hc : compSh P (.load t x) = some sh) (hok : [x].all okOpd = true)
    (hp : readC sh [ev ρ x] h = some v) : Runs P ι a w ⟨dst, .load t x, type, pos, after, guard⟩ v := by
  have r1 := hA.ev (all1 hok)
  revert hp r1
  generalize ev ρ x = u
  intro hp r1
  simp only [compSh] at hc
  split at hc
  · rename_i n hn
    split at hc
    · rename_i hag
      cases hc
      cases u <;> first | (simp [readC] at hp; done) | skip
      rename_i b
      cases b with
      | none => simp [readC] at hp
      | some b =>
        simp only [readC] at hp
        split at hp
        · rename_i cs hcs
          obtain ⟨c, k, opn, rw, hcb, hle, rfl⟩ := cellsAt_some hcs
          obtain ⟨i, e1, _, e2⟩ := r1.ptr_inv
          obtain ⟨cs', q1, q2, q3⟩ := cells_at hR e1 hcb hle
          have hagg := under_of_sz (w := w) (P := P) rfl hn (hwf _ _ hn)
          have hrun : (execOp a.eval ⟨dst, .load t x, type, pos, after, guard⟩).run P w = ((loadVar t ⟨i.blk, i.dl + b.off, none⟩).run P w).andThen fun v w => .ok (.value v) w := by
            simp [execOp, e2, Instr.loadAt, Instr.sureAddr]
          cases hb : isAggT P t
          · rw [hb] at hp hagg hag
            simp only [Bool.false_eq_true, if_false, false_or] at hp hag
            obtain ⟨v', g1, g2⟩ := q1.get hp
            refine ⟨v', ?_, g2⟩
            have := q3 0 v' g1
            rw [hrun, loadVar, Sem.run_bind, hagg]
            simp only [Result.andThen_ok, Bool.false_eq_true, if_false, run_load, this, Nat.add_zero] at this ⊢
          · rw [hb] at hp hagg
            simp only [if_true, Option.some.injEq] at hp
            subst hp
            refine ⟨.agg cs'.toArray, ?_, q1.toArray.agg⟩
            rw [hrun, loadVar, Sem.run_bind, hagg]
            simp only [Result.andThen_ok, if_true, Sem.run_bind, run_sizeOf w hn, run_loadCells_at q2 q3, Sem.run_pure]
        · cases hp
    · cases hc
  · cases hc

theorem asBytes_run : ∀ {cs : List Value} {l : List UInt8} (acc : ByteArray), asBytes cs = some l →
    (Sem.run P (forIn cs acc fun c r => (match c with | .int .u8 n => pure (ForInStep.yield (r.push (UInt8.ofNat n.toNat))) | _ => do stuck "bytesToString: byte expected"; pure (ForInStep.yield r) : Sem (ForInStep ByteArray))) w) = .ok ⟨acc.data ++ l.toArray⟩ w
  | [], l, acc, h => by simp [asBytes] at h; subst h; simp
  | c :: cs, l, acc, h => by
    cases c <;> first | (simp [asBytes] at h; done) | skip
    rename_i k n
    cases k <;> first | (simp [asBytes] at h; done) | skip
    simp only [asBytes, Option.map_eq_some_iff] at h
    obtain ⟨r, h1, rfl⟩ := h
    simp only [List.forIn_cons, Sem.run_bind, Sem.run_pure, Result.andThen_ok]
    rw [asBytes_run _ h1]
    congr 2
    simp [ByteArray.push]

theorem asBytes_bases : ∀ {cs : List Value} {l : List UInt8}, asBytes cs = some l → bases cs = true
  | [], l, h => rfl
  | c :: cs, l, h => by
    cases c <;> first | (simp [asBytes] at h; done) | skip
    rename_i k n
    cases k <;> first | (simp [asBytes] at h; done) | skip
    simp only [asBytes, Option.map_eq_some_iff] at h
    obtain ⟨r, h1, rfl⟩ := h
    simp only [bases, List.all_cons, Bool.and_eq_true]
    exact ⟨rfl, asBytes_bases h1⟩

theorem b2s_sound (hA : AR ι N ρ a) (hR : HR ι h w) {s d : TypeId} {x : Operand} (hc : compSh P (.convert s d x) = some sh) (hok : [x].all okOpd = true) (hp : readC sh [ev ρ x] h = some v) :
    Runs P ι a w ⟨dst, .convert s d x, type, pos, after, guard⟩ v := by
  have r1 := hA.ev (all1 hok)
  revert hp r1
  generalize ev ρ x = u
  intro hp r1
  simp only [compSh] at hc
  split at hc
  · cases hc; cases u <;> simp [readC] at hp
  · cases hc; cases u <;> simp [readC] at hp
  · split at hc <;> cases hc
    cases u <;> simp [readC] at hp
  · rename_i e h1 h2
    split at hc
    · rename_i h3
      cases hc
      cases u <;> first | (simp [readC] at hp; done) | skip
      rename_i b n cap
      cases b with
      | none =>
        simp only [readC, Option.some.injEq] at hp
        subst hp
        obtain ⟨_, _, z⟩ := r1.slice_none
        exact ⟨_, by simp [execOp, z, convert, run_underlying w h1, run_underlying w h2, run_underlying w h3, Conv.bytesToString], .base _ rfl⟩
      | some b =>
        simp only [readC, Option.map_eq_some_iff, Option.bind_eq_some_iff] at hp
        obtain ⟨l, ⟨cs, hcs, hl⟩, rfl⟩ := hp
        obtain ⟨c, k, opn, rw, hcb, hle, rfl⟩ := cellsAt_some hcs
        obtain ⟨j, a', c', e1, e2, e3, e4, e5, e6, e7, e8⟩ := r1.slice_inv
        refine ⟨.string ⟨l.toArray⟩, ?_, .base _ rfl⟩
        have hload : (loadCells a' n).run P w = .ok ((c.drop b.off).take n).toArray w := by
          by_cases hc0 : c' = 0
          · have hn : n = 0 := by omega
            subst hn; simp [loadCells, loadCellsFrom]
          · obtain ⟨e9, e10⟩ := e6.resolve_left hc0
            subst e9
            obtain ⟨cs', q1, q2, q3⟩ := cells_at hR e1 hcb hle
            rw [run_loadCells_at q2 q3]
            rw [q1.of_bases (asBytes_bases hl)]
        have hfor := asBytes_run (P := P) (w := w) .empty hl
        simp only [execOp, e8, convert, Sem.run_bind, run_underlying w h1, run_underlying w h2, run_underlying w h3, Result.andThen_ok, Conv.bytesToString, hload]
        rw [List.forIn_toArray]
        exact (congrArg (fun r : Result ByteArray => (r.andThen fun a w' => Sem.run P (pure (Value.string a)) w').andThen fun a w' => Sem.run P (pure (Next.value a)) w') hfor).trans (by simp only [Result.andThen_ok, Sem.run_pure]; congr 3; simp [ByteArray.empty, ByteArray.emptyWithCapacity, Array.emptyWithCapacity]; rfl)
    · cases hc
  · cases hc

theorem cap_sound (hA : AR ι N ρ a) (hR : HR ι h w) {c : Call} {k : Nat} (hc : compSh P (.call c) = some (.capL k)) (hok : (opdsOf (.call c)).all okOpd = true)
    (hp : readC (.capL k) ((opdsOf (.call c)).map (ev ρ)) h = some v) : Runs P ι a w ⟨dst, .call c, type, pos, after, guard⟩ v := by
  obtain ⟨callee, args, argTypes⟩ := c
  cases callee with
  | invoke r m => simp [compSh] at hc
  | value f =>
    cases f <;> simp only [compSh] at hc <;> (repeat' split at hc) <;> cases hc
  | builtin b =>
    have hops : opdsOf (.call ⟨.builtin b, args, argTypes⟩) = args.toList := rfl
    rw [hops] at hok hp
    have r0 := hA.evs hok
    revert hp r0
    generalize args.toList.map (ev ρ) = us
    intro hp r0
    cases b <;> simp only [compSh] at hc <;> (repeat' split at hc) <;> first | (cases hc; done) | skip
    rename_i t ht _ e hu
    simp only [Option.map_eq_some_iff] at hc
    obtain ⟨n, hn, hk⟩ := hc
    cases hk
    rcases us with _ | ⟨u, _ | ⟨z, us⟩⟩
    · simp [readC] at hp
    · obtain ⟨u', y', e1, e2, e3⟩ := r0.cons_inv
      rw [e3.nil_inv] at e1
      have e4 : args.map a.eval = #[u'] := by apply Array.ext'; simp [e1]
      cases u <;> first | (simp [readC] at hp; done) | skip
      rename_i b len cap
      have run : ∀ b' c', u' = .slice b' len c' → (c' : Int) = cap → (execOp a.eval ⟨dst, .call ⟨.builtin .cap, args, argTypes⟩, type, pos, after, guard⟩).run P w = .ok (.value (.int .i64 cap)) w := by
        intro b' c' e5 e6
        simp only [execOp, resolve, Sem.run_bind, Sem.run_pure, Result.andThen_ok, invoke, e4, e5]
        simp [Go.builtin, Builtin.cap_, ht, run_underlying w hu, goInt, e6]
      cases b with
      | none =>
        simp only [readC, Option.some.injEq] at hp
        subst hp
        obtain ⟨z1, z2, z3⟩ := e2.slice_none
        exact ⟨_, run _ _ (by rw [z3, z1]) (by rw [z2]), .base _ rfl⟩
      | some b =>
        simp only [readC] at hp
        split at hp
        · rename_i c k' opn rw hcb
          split at hp
          · rename_i hk
            cases hp
            obtain ⟨j, a', c', q1, q2, q3, q4, q5, q6, q7, q8⟩ := e2.slice_inv
            have hO := hR.obj _ _ q1
            rw [hcb] at hO
            obtain ⟨h1, h2, h3, h4, h0, C, t, fz, h5, h6, h7, h8⟩ := hO
            have := q7 (fun ⟨z1, z2⟩ => hk.2 ⟨by rw [← h3]; exact z1, by rw [← h2, ← hk.1, ← h1]; exact z2⟩)
            exact ⟨_, run _ _ q8 (by rw [this]), .base _ rfl⟩
          · cases hp
        · cases hp
    · cases u <;> simp [readC] at hp

theorem read_sound (hA : AR ι N ρ a) (hR : HR ι h w) {op : Op} (hwf : ∀ t n, szOf P t = some n → (P.underlying t).isSome = true) (hc : compSh P op = some sh) (hok : (opdsOf op).all okOpd = true) (hp : readC sh ((opdsOf op).map (ev ρ)) h = some v) :
    Runs P ι a w ⟨dst, op, type, pos, after, guard⟩ v := by
  cases op
  case load t x => exact load_sound hA hR hwf hc hok hp
  case convert s d x => exact b2s_sound hA hR hc hok hp
  case slice t x lo hi mx => exact slc_sound hA hR hc hok hp
  case call c =>
    have : ∃ k, sh = .capL k := by
      obtain ⟨callee, args, argTypes⟩ := c
      cases callee with
      | invoke r m => simp [compSh] at hc
      | value f =>
        cases f <;> simp only [compSh] at hc <;> (repeat' split at hc) <;> first | (cases hc; done) | (cases hc; simp [readC] at hp)
      | builtin b =>
        cases b <;> simp only [compSh] at hc <;> (repeat' split at hc) <;> first | (cases hc; done) | (cases hc; simp [readC] at hp; done) | skip
        all_goals
          rename_i e _
          cases hn : szOf P e with
          | none => rw [hn] at hc; cases hc
          | some n => rw [hn] at hc; cases hc; exact ⟨_, rfl⟩
    obtain ⟨k, rfl⟩ := this
    exact cap_sound hA hR hc hok hp
  case binOp op t x y yt =>
    cases op <;> simp only [compSh, compEq] at hc <;> (repeat' split at hc) <;> first | (cases hc; done) | (cases hc; simp [readC] at hp)
  all_goals
    simp only [compSh] at hc
    (repeat' split at hc) <;> first | (cases hc; done) | (cases hc; simp [readC] at hp; done) | skip
  all_goals
    simp only [Option.map_eq_some_iff] at hc
    obtain ⟨_, _, rfl⟩ := hc
    simp [readC] at hp

/-! ### What makes -/

/-- A new block in the machine's heap, of which a number is to tell. -/
def Makes (P : Program) (ι : Map) (a : Act) (w : World) (o : Oper) (co : CO) (f : Nat → Value) : Prop :=
  ∃ i v' w' O, (execOp a.eval o).run P w = .ok (.value v') w' ∧ w'.heap = w.heap.push O ∧ i.blk = w.heap.size ∧ w'.os = w.os ∧ w'.tape = w.tape ∧ w'.output = w.output ∧
    ∀ n, ι n = none → VR (ι.put n i) (f n) v' ∧ ∀ w'' : World, w''.heap[w.heap.size]? = some O → OR (ι.put n i) i w'' co

theorem makes_cells {c : List Value} {c' : Array Value} (hr : VL ι c c'.toList) (h1 : ∀ v ∈ c, v.oneCell' = true) (k : Nat) (e : TypeId) {n : Nat} (hn : ι n = none) :
    let i : Info := ⟨w.heap.size, 0, k, c.length, false, c.length⟩
    ∀ w'' : World, w''.heap[w.heap.size]? = some (.cells c' e (0, 0)) → OR (ι.put n i) i w'' (.cells c k false true) := by
  intro i w'' hw
  refine ⟨rfl, rfl, rfl, by simp [i], h1, c', e, (0, 0), hw, ?_, ?_, ?_⟩
  · have := hr.1; simp at this; exact this.symm
  · intro j v e1
    obtain ⟨v', q1, q2⟩ := hr.get e1
    exact ⟨v', by simpa [i] using q1, q2.mono (Map.le_put hn)⟩
  · intro _ j _ hj; simp at hj

theorem alloc_sound {t : TypeId} (hc : compSh P (.alloc t) = some sh) {co : CO} {f : Nat → Value} (hp : newC sh [] = some (co, f)) :
    Makes P ι a w ⟨dst, .alloc t, type, pos, after, guard⟩ co f := by
  simp only [compSh] at hc
  split at hc
  · rename_i z n hz hn
    split at hc
    · rename_i hk
      cases hc
      simp only [newC, Option.some.injEq, Prod.mk.injEq] at hp
      obtain ⟨rfl, rfl⟩ := hp
      refine ⟨⟨w.heap.size, 0, kOf P t n, z.cells.toList.length, false, z.cells.toList.length⟩, .pointer (some ⟨w.heap.size, 0, none⟩), w.alloc (.cells z.cells t), .cells z.cells t, ?_, rfl, rfl, rfl, rfl, rfl, fun m hm => ⟨.ptr ⟨m, 0, none⟩ _ (Map.put_self _ _ _) rfl, ?_⟩⟩
      · simp [execOp, Instr.alloc, run_zeroValue w hz, newVar, newRow]
      · exact makes_cells (flat_cells (ι := ι) hk.1) (fun v hv => List.all_eq_true.1 hk.2.2 v hv) _ t hm
    · cases hc
  · cases hc

theorem box_sound (hA : AR ι N ρ a) {t : TypeId} {x : Operand} (hc : compSh P (.box t x) = some sh) (hok : [x].all okOpd = true) {co : CO} {f : Nat → Value} (hp : newC sh [ev ρ x] = some (co, f)) :
    Makes P ι a w ⟨dst, .box t x, type, pos, after, guard⟩ co f := by
  have r1 := hA.ev (all1 hok)
  simp only [compSh, Option.map_eq_some_iff] at hc
  obtain ⟨n, hn, rfl⟩ := hc
  simp only [newC] at hp
  split at hp
  · rename_i h1
    simp only [Option.some.injEq, Prod.mk.injEq] at hp
    obtain ⟨rfl, rfl⟩ := hp
    have hcells := r1.cells.toList
    refine ⟨⟨w.heap.size, 0, kOf P t n, (ev ρ x).cells.toList.length, false, (ev ρ x).cells.toList.length⟩, .pointer (some ⟨w.heap.size, 0, none⟩), w.alloc (.cells (a.eval x).cells t), .cells (a.eval x).cells t, ?_, rfl, rfl, rfl, rfl, rfl, fun m hm => ⟨.ptr ⟨m, 0, none⟩ _ (Map.put_self _ _ _) rfl, ?_⟩⟩
    · simp [execOp, Instr.box, newVar, newRow]
    · exact makes_cells hcells (fun v hv => List.all_eq_true.1 h1 v hv) _ t hm
  · cases hp

theorem VL.replicate_flatten {x : List Value} (hx : VL ι x x) : ∀ n, VL ι (List.replicate n x).flatten (List.replicate n x).flatten
  | 0 => .nil ι
  | n + 1 => by rw [List.replicate_succ, List.flatten_cons]; exact hx.append (VL.replicate_flatten hx n)

theorem zeros_eq (z : Array Value) (hz : z.size ≠ 0) : ∀ n, ((Array.range (n * z.size)).map (z[· % z.size]!)) = (List.replicate n z.toList).flatten.toArray := by
  intro n
  apply Array.ext'
  simp only [Array.toList_map, Array.toList_range]
  induction n with
  | zero => simp
  | succ n ih =>
    rw [List.replicate_succ', List.flatten_append, ← ih, Nat.succ_mul, List.range_add]
    simp only [List.map_append, List.map_map, List.flatten_cons, List.flatten_nil, List.append_nil]
    congr 1
    apply List.ext_getElem?
    intro j
    by_cases hj : j < z.size
    · simp only [List.getElem?_map, List.getElem?_range hj, Option.map_some, Function.comp]
      have : (n * z.size + j) % z.size = j := by rw [Nat.mul_comm, Nat.mul_add_mod]; exact Nat.mod_eq_of_lt hj
      rw [this]
      simp [hj]
    · rw [List.getElem?_eq_none (by simp; omega), List.getElem?_eq_none (by simp; omega)]

theorem setAt_one {x y : List Value} (hx : ∀ v ∈ x, v.oneCell' = true) (hy : ∀ v ∈ y, v.oneCell' = true) (off : Nat) : ∀ v ∈ setAt x off y, v.oneCell' = true := by
  intro v hv
  unfold setAt at hv
  rw [List.mem_append, List.mem_append] at hv
  rcases hv with (hv | hv) | hv
  · exact hx v (List.mem_of_mem_take hv)
  · exact hy v hv
  · exact hx v (List.mem_of_mem_drop hv)
theorem setAt_length {x y : List Value} {off : Nat} (h : off + y.length ≤ x.length) : (setAt x off y).length = x.length := by
  unfold setAt; simp; omega
theorem fillC_one : ∀ {pl : List (Nat × Nat)} {vs x y : List Value}, (∀ v ∈ x, v.oneCell' = true) → (vs.all fun v => v.cells.toList.all (·.oneCell')) = true → fillC x (pl.zip vs) = some y → (∀ v ∈ y, v.oneCell' = true) ∧ y.length = x.length
  | [], vs, x, y, hx, hv, e => by simp [fillC] at e; subst e; exact ⟨hx, rfl⟩
  | p :: pl, [], x, y, hx, hv, e => by simp [fillC] at e; subst e; exact ⟨hx, rfl⟩
  | (off, n) :: pl, v :: vs, x, y, hx, hv, e => by
    simp only [List.zip_cons_cons, fillC] at e
    simp only [List.all_cons, Bool.and_eq_true] at hv
    split at e
    · rename_i hk
      have h1 := setAt_one hx (fun u hu => List.all_eq_true.1 hv.1 u hu) off
      have h2 : (setAt x off v.cells.toList).length = x.length := setAt_length (by rw [Array.length_toList, hk.1]; exact hk.2)
      obtain ⟨q1, q2⟩ := fillC_one h1 hv.2 e
      exact ⟨q1, q2.trans h2⟩
    · cases e

theorem blds_sound (hA : AR ι N ρ a) {t : TypeId} {len : Nat} {ps : Array (Nat × Operand)} (hc : compSh P (.buildSlice t len ps) = some sh) (hok : (ps.toList.map (·.2)).all okOpd = true) {co : CO} {f : Nat → Value}
    (hp : newC sh ((ps.toList.map (·.2)).map (ev ρ)) = some (co, f)) : Makes P ι a w ⟨dst, .buildSlice t len ps, type, pos, after, guard⟩ co f := by
  have r1 := hA.evs hok
  revert hp r1
  generalize ((ps.toList.map (·.2)).map (ev ρ)) = us
  intro hp r1
  simp only [compSh] at hc
  split at hc
  · rename_i e hu
    split at hc
    · rename_i n z hn hz
      split at hc
      · rename_i hk
        obtain ⟨k1, k2, k3, k4, k5⟩ := hk
        simp only [Option.map_eq_some_iff] at hc
        obtain ⟨pl, hpl, rfl⟩ := hc
        simp only [newC] at hp
        split at hp
        · rename_i hone
          simp only [Option.map_eq_some_iff] at hp
          obtain ⟨y, hfi, hy⟩ := hp
          simp only [Prod.mk.injEq] at hy
          obtain ⟨rfl, rfl⟩ := hy
          have hz0 := VL.replicate_flatten (flat_cells (ι := ι) k1) len
          obtain ⟨y', e1, e2⟩ := VL.fillC hz0 r1 hfi
          have hones : ∀ v ∈ (List.replicate len z.cells.toList).flatten, v.oneCell' = true := by
            intro v hv
            simp only [List.mem_flatten, List.mem_replicate] at hv
            obtain ⟨l, ⟨_, rfl⟩, hv⟩ := hv
            simp only [List.all_eq_true] at k3
            exact k3 v hv
          obtain ⟨o1, o2⟩ := fillC_one hones hone.2 hfi
          have hlen : y.length = len * n := by
            rw [o2]; simp [k2]
          rw [List.map_map] at e1
          have hsz : z.cells.size ≠ 0 := by omega
          have hzs := zeros_eq z.cells hsz len
          rw [k2] at hzs
          have := fill_eq (fun i => some (i * n, n)) a ps.toList pl (List.replicate len z.cells.toList).flatten.toArray y' hpl e1
          refine ⟨⟨w.heap.size, 0, n, y.length, false, y.length⟩, .slice (some ⟨w.heap.size, 0, none⟩) len len, w.alloc (.cells y'.toArray e), .cells y'.toArray e, ?_, rfl, rfl, rfl, rfl, rfl, fun m hm => ⟨?_, ?_⟩⟩
          · simp only [execOp, Instr.buildSlice, Sem.run_bind, run_underlying w hu, Result.andThen_ok, run_sizeOf w hn]
            rw [if_neg (by omega)]
            have e0 : ∀ zero : Array Value, (len * n ≠ 0 → zero = z.cells) → (Array.range (len * n)).map (zero[· % zero.size]!) = (List.replicate len z.cells.toList).flatten.toArray := by
              intro zero hzero
              by_cases h0 : len * n = 0
              · have hl0 : len = 0 := by rcases Nat.mul_eq_zero.1 h0 with h | h <;> omega
                subst hl0; simp
              · rw [hzero h0, k2]; exact hzs
            split
            · rename_i h0
              simp only [Sem.run_bind, Sem.run_pure, Result.andThen_ok]
              rw [e0 _ (fun q => absurd h0 q), Array.toList_map, this]
              rfl
            · rename_i h0
              simp only [Sem.run_bind, Sem.run_pure, Result.andThen_ok, run_zeroValue w hz]
              rw [e0 _ (fun _ => rfl), Array.toList_map, this]
              rfl
          · refine .slice ⟨m, 0, none⟩ _ _ _ _ _ (Map.put_self _ _ _) rfl (Nat.le_refl _) ?_ (Nat.le_refl _) (.inr ⟨rfl, ?_⟩) (fun _ => rfl)
            · simp [hlen]
            · simp [hlen]
          · exact makes_cells e2 o1 _ e hm
        · cases hp
      · cases hc
    · cases hc
  · cases hc


theorem wrap_in {n : Int} (h0 : 0 ≤ n) (h1 : n ≤ 140737488351232) : IntKind.i64.wrap n = n := by
  simp [IntKind.wrap, IntKind.bits, IntKind.signed]
  omega

theorem mks_sound (hA : AR ι N ρ a) {t : TypeId} {x y : Operand} (hc : compSh P (.makeSlice t x y) = some sh) (hok : [x, y].all okOpd = true) {co : CO} {f : Nat → Value}
    (hp : newC sh [ev ρ x, ev ρ y] = some (co, f)) : Makes P ι a w ⟨dst, .makeSlice t x y, type, pos, after, guard⟩ co f := by
  obtain ⟨h1, h2⟩ := all2 hok
  have r1 := hA.ev h1
  have r2 := hA.ev h2
  revert hp r1 r2
  generalize ev ρ x = u
  generalize ev ρ y = z
  intro hp r1 r2
  simp only [compSh] at hc
  split at hc
  · rename_i e hu
    split at hc
    · rename_i n b zv hn hb hz
      split at hc
      · rename_i hk
        cases hc
        obtain ⟨k1, k2, k3, k4⟩ := hk
        cases u <;> first | (simp [newC] at hp; done) | skip
        cases z <;> first | (simp [newC] at hp; done) | skip
        rename_i kl l kc c
        simp only [newC] at hp
        split at hp
        · rename_i hb2
          obtain ⟨b1, b2, b3, b4⟩ := hb2
          simp only [Option.some.injEq, Prod.mk.injEq] at hp
          obtain ⟨rfl, rfl⟩ := hp
          have hones : ∀ v ∈ (List.replicate c.toNat zv.cells.toList).flatten, v.oneCell' = true := by
            intro v hv
            simp only [List.mem_flatten, List.mem_replicate] at hv
            obtain ⟨l, ⟨_, rfl⟩, hv⟩ := hv
            exact List.all_eq_true.1 k3 v hv
          have hlen : ((List.replicate c.toNat zv.cells.toList).flatten).length = c.toNat * n := by simp [k2]
          have hz0 := VL.replicate_flatten (flat_cells (ι := ι) k1) c.toNat
          have hinfo : ∃ i, P.info? e = some i ∧ i.bytes = b := by
            unfold byOf at hb
            cases q : P.info? e with
            | none => rw [q] at hb; cases hb
            | some i => rw [q] at hb; cases hb; exact ⟨i, rfl, rfl⟩
          obtain ⟨i, hi, hib⟩ := hinfo
          refine ⟨⟨w.heap.size, 0, n, ((List.replicate c.toNat zv.cells.toList).flatten).length, false, ((List.replicate c.toNat zv.cells.toList).flatten).length⟩, .slice (some ⟨w.heap.size, 0, none⟩) l.toNat c.toNat,
            w.alloc (.cells (List.replicate c.toNat zv.cells.toList).flatten.toArray e), .cells (List.replicate c.toNat zv.cells.toList).flatten.toArray e, ?_, rfl, rfl, rfl, rfl, rfl, fun m hm => ⟨?_, ?_⟩⟩
          · have q1 := r1.int
            have q2 := r2.int
            have w1 : IntKind.i64.wrap l = l := wrap_in b1 (by omega)
            have w2 : IntKind.i64.wrap c = c := wrap_in (by omega) b4
            have hbc : (b : Int) * c ≤ 140737488351232 := by rw [Int.mul_comm]; exact b3
            have t1 : ¬ ((decide (c < 0) || decide ((b : Int) * c > 2 ^ 48)) = true ∨ l < 0 ∨ l > c) := by
              simp only [Bool.or_eq_true, decide_eq_true_eq]; omega
            have e0 : ∀ zero : Array Value, (c.toNat * n ≠ 0 → zero = zv.cells) → (Array.range (c.toNat * n)).map (zero[· % zero.size]!) = (List.replicate c.toNat zv.cells.toList).flatten.toArray := by
              intro zero hzero
              by_cases h0 : c.toNat * n = 0
              · have hl0 : c.toNat = 0 := by rcases Nat.mul_eq_zero.1 h0 with h | h <;> omega
                rw [hl0]; simp
              · have := zeros_eq zv.cells (by omega) c.toNat
                rw [k2] at this
                rw [hzero h0, k2]; exact this
            simp only [execOp, q1, q2, Instr.makeSlice, Sem.run_bind, run_underlying w hu, Result.andThen_ok, run_asInt, run_typeInfo w hi, hib, w1, w2]
            have t2 : ((decide (c < 0) || decide ((b : Int) * c > 2 ^ 48)) || decide (l < 0) || decide (l > c)) = false := by
              simp only [Bool.or_eq_false_iff, decide_eq_false_iff_not]; omega
            simp only [t2, Bool.false_eq_true, if_false, Sem.run_bind, run_askRoom, Result.andThen_ok, run_sizeOf w hn]
            split
            · rename_i h0
              simp only [Sem.run_bind, Sem.run_pure, Result.andThen_ok]
              rw [e0 _ (fun q => absurd h0 q)]
              rfl
            · rename_i h0
              simp only [Sem.run_bind, Sem.run_pure, Result.andThen_ok, run_zeroValue w hz]
              rw [e0 _ (fun _ => rfl)]
              rfl
          · refine .slice ⟨m, 0, none⟩ _ _ _ _ _ (Map.put_self _ _ _) rfl (by omega) ?_ (Nat.le_refl _) (.inr ⟨rfl, ?_⟩) (fun _ => rfl)
            · simp only [hlen]; omega
            · simp only [hlen]; omega
          · exact makes_cells (by simpa using hz0) hones _ e hm
        · cases hp
      · cases hc
    · cases hc
  · cases hc

theorem s2b_sound (hA : AR ι N ρ a) {s d : TypeId} {x : Operand} (hc : compSh P (.convert s d x) = some sh) (hok : [x].all okOpd = true) {co : CO} {f : Nat → Value} (hp : newC sh [ev ρ x] = some (co, f)) :
    Makes P ι a w ⟨dst, .convert s d x, type, pos, after, guard⟩ co f := by
  have r1 := hA.ev (all1 hok)
  revert hp r1
  generalize ev ρ x = u
  intro hp r1
  simp only [compSh] at hc
  split at hc
  · cases hc; cases u <;> simp [newC] at hp
  · cases hc; cases u <;> simp [newC] at hp
  · rename_i e h1 h2
    split at hc
    · rename_i h3 h4
      cases hc
      cases u <;> first | (simp [newC] at hp; done) | skip
      rename_i s
      simp only [newC, Option.some.injEq, Prod.mk.injEq] at hp
      obtain ⟨rfl, rfl⟩ := hp
      have q := r1.string
      generalize hcap : (Question.appendCap s.size 0 e).cut (w.tape w.drawn (.appendCap s.size 0 e)) = cap
      have hle : s.size ≤ cap := by rw [← hcap]; simp only [Question.cut]; omega
      let C : Array Value := (s.data.map fun b => .int .u8 b.toNat) ++ Array.replicate (cap - s.size) (.int .u8 0)
      have hC : C.size = cap := by simp [C]; omega
      refine ⟨⟨w.heap.size, 0, 1, (s.data.toList.map fun b => Value.int .u8 b.toNat).length, true, cap⟩, .slice (some ⟨w.heap.size, 0, none⟩) s.size cap, (w.drew.alloc (.cells C e (C.size, C.size + 1))), .cells C e (C.size, C.size + 1), ?_, rfl, rfl, rfl, rfl, rfl, fun m hm => ⟨?_, ?_⟩⟩
      · simp only [execOp, q, convert, Sem.run_bind, run_underlying w h1, run_underlying w h2, run_underlying w h3, Result.andThen_ok, Conv.stringToBytes, run_choose, Question.forced, Bool.false_eq_true, if_false, hcap, newRow, run_newObj, Sem.run_pure, markStringish, run_shape]
        have hshape : ∀ W : World, W.heap = w.heap.push (Obj.cells C e) → W.shape? w.heap.size = some (e, C.size) := by
          intro W hW; simp [World.shape?, hW]
        rw [hshape _ rfl]
        simp only [run_freeze, Result.andThen_ok]
        congr 1
        simp only [World.freeze, World.alloc, World.drew]
        rw [if_neg (by decide)]
        congr 1
        apply Array.ext
        · simp
        · intro j h1 h2
          simp only [Array.getElem_modify]
          by_cases hj : w.heap.size = j
          · subst hj; simp [C]
          · have : j < w.heap.size := by simp at h2; omega
            simp [hj, Array.getElem_push, this]
      · refine .slice ⟨m, 0, none⟩ _ _ _ _ _ (Map.put_self _ _ _) rfl (Nat.le_refl _) ?_ hle (.inr ⟨rfl, ?_⟩) ?_
        · simp
        · simp
        · intro hne; exact absurd ⟨rfl, by simp⟩ hne
      · intro w'' hw
        refine ⟨rfl, rfl, rfl, by simp; omega, ?_, C, e, _, hw, hC, ?_, ?_⟩
        · intro v hv; simp only [List.mem_map] at hv; obtain ⟨b, _, rfl⟩ := hv; rfl
        · intro j v e1
          refine ⟨v, ?_, .base _ ?_⟩
          · simp only [List.getElem?_map, Option.map_eq_some_iff] at e1
            obtain ⟨b, e2, rfl⟩ := e1
            have hj : j < s.data.size := by simpa using (List.getElem?_eq_some_iff.1 e2).1
            simp only [C, Nat.zero_add]
            rw [Array.getElem?_append_left (by simpa using hj)]
            simp at e2 ⊢
            exact ⟨_, e2, rfl⟩
          · simp only [List.getElem?_map, Option.map_eq_some_iff] at e1
            obtain ⟨b, e2, rfl⟩ := e1
            rfl
        · intro _ j hj
          have hj' : j < cap := hj
          show ¬ (C.size ≤ j ∧ j < C.size + 1)
          omega
    · cases hc
  · split at hc <;> cases hc
    cases u <;> simp [newC] at hp
  · cases hc


theorem new_sound (hA : AR ι N ρ a) {op : Op} (hc : compSh P op = some sh) (hok : (opdsOf op).all okOpd = true) {co : CO} {f : Nat → Value} (hp : newC sh ((opdsOf op).map (ev ρ)) = some (co, f)) :
    Makes P ι a w ⟨dst, op, type, pos, after, guard⟩ co f := by
  cases op
  case alloc t => exact alloc_sound hc hp
  case box t x => exact box_sound hA hc hok hp
  case buildSlice t len ps => exact blds_sound hA hc hok hp
  case makeSlice t x y => exact mks_sound hA hc hok hp
  case convert s d x => exact s2b_sound hA hc hok hp
  case binOp op t x y yt =>
    cases op <;> simp only [compSh, compEq] at hc <;> (repeat' split at hc) <;> first | (cases hc; done) | (cases hc; simp [newC] at hp)
  all_goals
    simp only [compSh] at hc
    (repeat' split at hc) <;> first | (cases hc; done) | (cases hc; simp [newC] at hp; done) | skip
  all_goals
    simp only [Option.map_eq_some_iff] at hc
    obtain ⟨_, _, rfl⟩ := hc
    simp [newC] at hp

/-! ### What writes -/

theorem storeCells_blk {g : Nat} {e : TypeId} {fz : Nat × Nat} (o : Nat) : ∀ (vs : List Value) (i : Nat) (w : World) (C : Array Value), w.heap[g]? = some (.cells C e fz) → (∀ j, j < C.size → ¬ (fz.1 ≤ j ∧ j < fz.2)) → o + i + vs.length ≤ C.size →
    (∀ v ∈ vs, v.oneCell' = true) → ∃ w', (storeCells ⟨g, o, none⟩ vs i).run P w = .ok () w' ∧ w'.heap[g]? = some (.cells (setAt C.toList (o + i) vs).toArray e fz) ∧ (∀ b, b ≠ g → w'.heap[b]? = w.heap[b]?) ∧
      w'.heap.size = w.heap.size ∧ w'.os = w.os ∧ w'.tape = w.tape ∧ w'.output = w.output
  | [], i, w, C, h, hf, hl, h1 => ⟨w, rfl, by rw [h]; simp [setAt], fun _ _ => rfl, rfl, rfl, rfl, rfl⟩
  | v :: vs, i, w, C, h, hf, hl, h1 => by
    simp only [List.length_cons] at hl
    have hi : o + i < C.size := by omega
    have hcell : w.cell? ⟨g, o + i, none⟩ = some C[o + i] := by rw [cell?_blk h]; exact Array.getElem?_eq_getElem hi
    have hfro : w.frozen? ⟨g, o + i, none⟩ = false := by
      rw [frozen?_blk h]
      have := hf _ hi
      simp only [Bool.and_eq_false_iff, decide_eq_false_iff_not]; omega
    have hset : (w.setCell ⟨g, o + i, none⟩ v).heap[g]? = some (.cells (C.setIfInBounds (o + i) v) e fz) := by
      simp [World.setCell, Array.getElem?_modify, h]
    obtain ⟨w', q1, q2, q3, q4, q5, q6, q7⟩ := storeCells_blk o vs (i + 1) (w.setCell ⟨g, o + i, none⟩ v) _ hset (by simpa using hf) (by simp; omega) (fun u hu => h1 u (List.mem_cons_of_mem _ hu))
    refine ⟨w', ?_, ?_, ?_, ?_, q5.trans rfl, q6.trans rfl, q7.trans rfl⟩
    · simp only [storeCells, Addr.add_lit, Sem.run_bind, run_store P w _ v .plain (h1 v List.mem_cons_self), hcell, hfro, Bool.false_eq_true, if_false, Result.andThen_ok]
      exact q1
    · rw [q2]
      congr 2
      apply Array.ext'
      simp only [Array.toList_setIfInBounds, setAt, List.length_cons]
      apply List.ext_getElem?
      intro j
      simp only [List.append_assoc, List.getElem?_append, List.length_take, List.length_set, List.getElem?_take, List.getElem?_set, List.getElem?_drop, List.length_cons, Array.length_toList]
      have e1 : min (o + (i + 1)) C.size = o + i + 1 := by omega
      have e2 : min (o + i) C.size = o + i := by omega
      rw [e1, e2]
      by_cases h1 : j < o + i
      · have a1 : j < o + (i + 1) := by omega
        have a2 : j < o + i + 1 := by omega
        have a3 : ¬ o + i = j := by omega
        simp [h1, a1, a2, a3]
      · by_cases h2 : j = o + i
        · subst h2
          simp [hi]
        · have a2 : ¬ j < o + i + 1 := by omega
          have a4 : j - (o + i) = (j - (o + i + 1)) + 1 := by omega
          rw [if_neg a2, if_neg h1, a4, List.getElem?_cons_succ]
          by_cases h3 : j - (o + i + 1) < vs.length
          · simp [h3]
          · have a6 : ¬ o + i = o + (i + 1) + vs.length + (j - (o + i + 1) - vs.length) := by omega
            have a7 : ¬ j - (o + i + 1) + 1 < vs.length + 1 := by omega
            simp only [h3, if_false, a6, a7]
            rw [show o + (i + 1) + vs.length + (j - (o + i + 1) - vs.length) = o + i + (vs.length + 1) + (j - (o + i + 1) + 1 - (vs.length + 1)) by omega]
    · intro b hb
      rw [q3 b hb]
      simp only [World.setCell, Array.getElem?_modify]
      rw [if_neg (Ne.symm hb)]
    · rw [q4]; simp

theorem setAt_get {C : List Value} {d : Nat} {c vs : List Value} {off : Nat} {ι : Map} {vs' : List Value} (hl : off + vs.length ≤ c.length) (hv : VL ι vs vs') (hd : d + c.length ≤ C.length)
    (hc : ∀ (j : Nat) (v : Value), c[j]? = some v → ∃ v', C[d + j]? = some v' ∧ VR ι v v') : ∀ (j : Nat) (v : Value), (setAt c off vs)[j]? = some v → ∃ v', (setAt C (d + off) vs')[d + j]? = some v' ∧ VR ι v v' := by
  intro j v e
  have hlen := hv.1
  unfold setAt at e ⊢
  rw [List.append_assoc] at e ⊢
  by_cases h1 : j < off
  · rw [List.getElem?_append_left (by simp; omega), List.getElem?_take, if_pos h1] at e
    rw [List.getElem?_append_left (by simp; omega), List.getElem?_take, if_pos (by omega)]
    exact hc j v e
  · rw [List.getElem?_append_right (by simp; omega)] at e
    rw [List.getElem?_append_right (by simp; omega)]
    have e1 : (c.take off).length = off := by simp; omega
    have e2 : (C.take (d + off)).length = d + off := by simp; omega
    rw [e1] at e
    rw [e2, show d + j - (d + off) = j - off by omega]
    by_cases h2 : j - off < vs.length
    · rw [List.getElem?_append_left h2] at e
      rw [List.getElem?_append_left (by omega)]
      exact hv.get e
    · rw [List.getElem?_append_right (by omega), List.getElem?_drop] at e
      rw [List.getElem?_append_right (by omega), List.getElem?_drop, ← hlen]
      obtain ⟨v', q1, q2⟩ := hc _ v e
      refine ⟨v', ?_, q2⟩
      rw [← q1]; congr 1; omega

/-- A store of cells, on both sides. -/
theorem storeC_sound (hR : HR ι h w) {b : Addr} {i : Info} (e : ι b.block = some i) {vs vs' : List Value} (hv : VL ι vs vs') (h1 : ∀ v ∈ vs, v.oneCell' = true) {h' : CH} (hs : storeC h b vs = some h') :
    ∃ w', (storeCells ⟨i.blk, i.dl + b.off, none⟩ vs').run P w = .ok () w' ∧ HR ι h' w' ∧ Fr ι h w ι h' w' := by
  unfold storeC at hs
  split at hs
  · rename_i c k opn rw hc
    split at hs
    · rename_i hk
      obtain ⟨k1, k2, k3⟩ := hk
      subst k1
      cases hs
      have hO := hR.obj _ i e
      rw [hc] at hO
      obtain ⟨g1, g2, g3, g4, g0, C, t, fz, g5, g6, g7, g8⟩ := hO
      have hones : ∀ v ∈ vs', v.oneCell' = true := by
        intro v hm
        obtain ⟨j, hj, hjv⟩ := List.getElem_of_mem hm
        have hj2 : j < vs.length := hv.1 ▸ hj
        have := hv.2 j vs[j] v (List.getElem?_eq_getElem hj2) (by rw [List.getElem?_eq_getElem hj, hjv])
        rw [this.one]; exact h1 _ (List.getElem_mem hj2)
      obtain ⟨w', q1, q2, q3, q4, q5, q6, q7⟩ := storeCells_blk (P := P) (i.dl + b.off) vs' 0 w C g5 (by rw [g6]; exact g8 rfl) (by rw [← hv.1]; omega) hones
      refine ⟨w', q1, ?_, ?_⟩
      · refine hR.write e hc (setAt_length k2) (setAt C.toList (i.dl + b.off) vs').toArray ?_ ?_ (setAt_one g0 h1 _) q3 q4
        · intro C2 t2 fz2 h5
          rw [g5] at h5
          simp only [Option.some.injEq, Obj.cells.injEq] at h5
          obtain ⟨rfl, rfl, rfl⟩ := h5
          refine ⟨by simpa using q2, ?_⟩
          simp only [List.size_toArray]
          rw [setAt_length (by rw [← hv.1]; simp; omega)]; simp
        · intro j v e1
          obtain ⟨v', p1, p2⟩ := setAt_get (C := C.toList) (d := i.dl) k2 hv (by simp; omega) (fun j v e => by obtain ⟨v', p1, p2⟩ := g7 j v e; exact ⟨v', by simpa using p1, p2⟩) j v e1
          exact ⟨v', by simpa using p1, p2⟩
      · exact Fr.write e hc rfl q4 q3 q5 q6 q7
    · cases hs
  · cases hs

/-- What a writing operation comes to. -/
def Post (ι : Map) (h : CH) (w : World) (v : Value) (h' : CH) (v' : Value) (w' : World) : Prop := ∃ κ, VR κ v v' ∧ HR κ h' w' ∧ Fr ι h w κ h' w'

theorem store_sound (hA : AR ι N ρ a) (hR : HR ι h w) {t : TypeId} {x y : Operand} {n : Nat} (hc : compSh P (.store t x y) = some (.store n)) (hok : [x, y].all okOpd = true) {b : Addr} (hx : ev ρ x = .pointer (some b))
    (hn : (ev ρ y).cells.size = n) (h1 : (ev ρ y).cells.toList.all (·.oneCell') = true) {h' : CH} (hs : storeC h b (ev ρ y).cells.toList = some h') :
    ∃ w', (execOp a.eval ⟨dst, .store t x y, type, pos, after, guard⟩).run P w = .ok .skip w' ∧ Post ι h w undef h' undef w' := by
  obtain ⟨o1, o2⟩ := all2 hok
  have r1 := hA.ev o1
  have r2 := hA.ev o2
  rw [hx] at r1
  obtain ⟨i, e1, _, e2⟩ := r1.ptr_inv
  have rc := r2.cells
  obtain ⟨w', q1, q2, q3⟩ := storeC_sound (P := P) hR e1 rc.toList (fun v hv => List.all_eq_true.1 h1 v hv) hs
  simp only [compSh, Option.map_eq_some_iff] at hc
  obtain ⟨m, hm, hmn⟩ := hc
  cases hmn
  refine ⟨w', ?_, ι, .undef ι, q2, q3⟩
  simp only [execOp, Instr.storeAt, e2, Instr.sureAddr, storeVar, Sem.run_bind, Sem.run_pure, Result.andThen_ok, run_sizeOf w hm]
  rw [if_neg (by rw [← rc.1, hn]; simp)]
  rw [q1]; rfl

end
end Go.Proofs.Ytdfmdclfnhgjiaa.Can
