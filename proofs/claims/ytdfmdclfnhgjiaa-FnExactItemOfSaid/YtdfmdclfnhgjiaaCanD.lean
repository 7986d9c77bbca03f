/- Each operation without a heap, by itself: the machine's run of it.
   Conditions: the frame is the short form's frame. -/
import Derived.Test.YtdfmdclfnhgjiaaCanC
set_option linter.unusedVariables false
set_option linter.unusedSimpArgs false
namespace Go.Proofs.Ytdfmdclfnhgjiaa.Can
open Go

theorem szOf_some {P : Program} {t : TypeId} {n : Nat} (h : szOf P t = some n) : ∃ i, P.info? t = some i ∧ i.size = n := by
  unfold szOf at h
  split at h
  · cases e : P.info? t with
    | none => rw [e] at h; cases h
    | some i => rw [e] at h; cases h; exact ⟨i, rfl, rfl⟩
  · cases h

theorem under_of_sz {P : Program} {t : TypeId} {b : Bool} (h : isAggT P t = b) {n : Nat} (hn : szOf P t = some n) {w : World} : (P.underlying t).isSome = true → (isAgg t).run P w = .ok b w := by
  intro hs
  obtain ⟨d, hd⟩ := Option.isSome_iff_exists.1 hs
  rw [run_isAgg w hd, h]


theorem all2 {x y : Operand} (h : [x, y].all okOpd = true) : okOpd x = true ∧ okOpd y = true := by simpa using h
theorem all1 {x : Operand} (h : [x].all okOpd = true) : okOpd x = true := by simpa using h

section
variable {P : Program} {ι : Map} {N : Nat} {ρ : Nat → Value} {a : Act} {w : World} {dst : Option Tmp} {type : TypeId} {pos : String} {after : Array Edge} {guard : Option (Nat × Bool)} {v : Value} {sh : Sh}

def Runs (P : Program) (ι : Map) (a : Act) (w : World) (o : Oper) (v : Value) : Prop := ∃ v', (execOp a.eval o).run P w = .ok (.value v') w ∧ VR ι v v'

theorem pick_sound (hA : AR ι N ρ a) {c x y : Operand} (hok : [c, x, y].all okOpd = true) (hp : pureC .pick [ev ρ c, ev ρ x, ev ρ y] = some v) : Runs P ι a w ⟨dst, .pick c x y, type, pos, after, guard⟩ v := by
  simp only [List.all_cons, List.all_nil, Bool.and_true, Bool.and_eq_true] at hok
  obtain ⟨h1, h2, h3⟩ := hok
  have r1 := hA.ev h1
  have r2 := hA.ev h2
  have r3 := hA.ev h3
  revert hp r1
  generalize ev ρ c = u
  intro hp r1
  cases u <;> first | (simp [pureC] at hp; done) | skip
  rename_i b
  simp only [pureC, Option.some.injEq] at hp
  have e := r1.bool
  refine ⟨if b = true then a.eval x else a.eval y, ?_, ?_⟩
  · simp [execOp, e, asBool]
  · subst hp; cases b <;> simp <;> assumption

theorem bin_sound (hA : AR ι N ρ a) {op : BinOp} {t yt : TypeId} {x y : Operand} (hok : [x, y].all okOpd = true) (hp : pureC (.bin op) [ev ρ x, ev ρ y] = some v) :
    Runs P ι a w ⟨dst, .binOp op t x y yt, type, pos, after, guard⟩ v := by
  obtain ⟨h1, h2⟩ := all2 hok
  obtain ⟨e1, e2, e3, e4⟩ := cbin_sound (P := P) (w := w) t (show cbin op (ev ρ x) (ev ρ y) = some v from hp)
  have q1 := (hA.ev h1).of_base e3
  have q2 := (hA.ev h2).of_base e4
  refine ⟨v, ?_, .base v e2⟩
  have hg : (eqGuard op t x y (ev ρ x) (ev ρ y)).run P w = .ok () w := by
    refine run_eqGuard_base op t x y ?_ ?_
    · rintro ⟨e, -⟩; rw [e] at hp; simp [pureC, cbin] at hp
    · intro c e; rw [e] at hp; simp [pureC, cbin] at hp
  simp only [execOp, q1, q2, Sem.run_bind, hg, Result.andThen_ok, e1, Sem.run_pure]

theorem eqB_sound (hA : AR ι N ρ a) {neg : Bool} {t yt : TypeId} {x y : Operand} (ht : P.underlying t = some .bool) (hok : [x, y].all okOpd = true) (hp : pureC (.eqB neg) [ev ρ x, ev ρ y] = some v) :
    Runs P ι a w ⟨dst, .binOp (if neg then .neq else .eql) t x y yt, type, pos, after, guard⟩ v := by
  obtain ⟨h1, h2⟩ := all2 hok
  have r1 := hA.ev h1
  have r2 := hA.ev h2
  revert hp r1 r2
  generalize ev ρ x = u
  generalize ev ρ y = z
  intro hp r1 r2
  cases u <;> first | (simp [pureC] at hp; done) | skip
  cases z <;> first | (simp [pureC] at hp; done) | skip
  rename_i b c
  have q1 := r1.bool
  have q2 := r2.bool
  have heq : (Op.equal t (.bool b) (.bool c)).run P w = .ok (b == c) w := by
    unfold Op.equal Op.maxDepth
    rw [Op.equalIn, Sem.run_bind, run_underlying w ht]
    rfl
  simp only [pureC, Option.some.injEq] at hp
  subst hp
  refine ⟨_, ?_, .base _ rfl⟩
  cases neg <;> simp [execOp, q1, q2, eqGuard, binOp, heq] <;> (cases b <;> cases c <;> rfl)

theorem un_sound (hA : AR ι N ρ a) {op : UnOp} {t : TypeId} {x : Operand} (hok : [x].all okOpd = true) (hp : pureC (.un op) [ev ρ x] = some v) :
    Runs P ι a w ⟨dst, .unOp op t x, type, pos, after, guard⟩ v := by
  obtain ⟨e1, e2, e3⟩ := cun_sound (P := P) (w := w) (show cun op (ev ρ x) = some v from hp)
  have q1 := (hA.ev (all1 hok)).of_base e3
  exact ⟨v, by simp [execOp, q1, e1], .base v e2⟩

theorem conv_sound (hA : AR ι N ρ a) {s d : TypeId} {x : Operand} (hc : compSh P (.convert s d x) = some sh) (hok : [x].all okOpd = true) (hp : pureC sh [ev ρ x] = some v) :
    Runs P ι a w ⟨dst, .convert s d x, type, pos, after, guard⟩ v := by
  have r1 := hA.ev (all1 hok)
  revert hp r1
  generalize ev ρ x = u
  intro hp r1
  simp only [compSh] at hc
  split at hc
  · rename_i k1 k h1 h2
    cases hc
    cases u <;> first | (simp [pureC] at hp; done) | skip
    simp only [pureC, Option.some.injEq] at hp
    subst hp
    have q := r1.int
    exact ⟨_, by simp [execOp, q, convert, run_underlying w h1, run_underlying w h2, Conv.intToInt], .base _ rfl⟩
  · rename_i h1 h2
    cases hc
    cases u <;> first | (simp [pureC] at hp; done) | skip
    simp only [pureC, Option.some.injEq] at hp
    subst hp
    have q := r1.string
    exact ⟨_, by simp [execOp, q, convert, run_underlying w h1, run_underlying w h2], .base _ rfl⟩
  · split at hc <;> cases hc
    simp [pureC] at hp
  · split at hc <;> cases hc
    simp [pureC] at hp
  · cases hc

theorem run_part {t : TypeId} {b : Bool} {n off : Nat} {cs : Array Value} (hd : (P.underlying t).isSome = true) (hb : isAggT P t = b) (hn : szOf P t = some n) {u : Value}
    (hu : (if b then some (.agg (cs.extract off (off + n))) else cs[off]?) = some u) : (part t cs off).run P w = .ok u w := by
  have h1 := under_of_sz (w := w) hb hn hd
  unfold part
  rw [Sem.run_bind, h1]
  cases b
  · simp at hu; simp [hu]
  · simp at hu; simp [run_sizeOf w hn, hu]

theorem part_rel {x x' : Array Value} (h : VA ι x x') {b : Bool} {off n : Nat} {u : Value} (hu : (if b then some (.agg (x.extract off (off + n))) else x[off]?) = some u) :
    ∃ u', (if b then some (.agg (x'.extract off (off + n))) else x'[off]?) = some u' ∧ VR ι u u' := by
  cases b
  · simp at hu; obtain ⟨u', e, r⟩ := h.get hu; exact ⟨u', by simpa using e, r⟩
  · simp at hu; subst hu; exact ⟨_, rfl, (h.extract _ _).agg⟩


theorem field_sound (hA : AR ι N ρ a) {t : TypeId} {x : Operand} {f : Nat} (hwf : ∀ t n, szOf P t = some n → (P.underlying t).isSome = true) (hc : compSh P (.field t x f) = some sh) (hok : [x].all okOpd = true) (hp : pureC sh [ev ρ x] = some v) :
    Runs P ι a w ⟨dst, .field t x f, type, pos, after, guard⟩ v := by
  have r1 := hA.ev (all1 hok)
  revert hp r1
  generalize ev ρ x = u
  intro hp r1
  simp only [compSh] at hc
  split at hc
  · rename_i fs hu
    split at hc
    · rename_i fl hf
      cases hn : szOf P fl.type with
      | none => rw [hn] at hc; cases hc
      | some n =>
        rw [hn] at hc
        simp only [Option.map_some, Option.some.injEq] at hc
        subst hc
        cases u <;> first | (simp [pureC] at hp; done) | skip
        rename_i cs
        simp only [pureC] at hp
        obtain ⟨x', e, r⟩ := r1.agg_inv
        obtain ⟨u', e2, r2⟩ := part_rel r hp
        refine ⟨u', ?_, r2⟩
        simp [execOp, e, Instr.field, run_underlying w hu, hf, asAgg, run_part (hwf _ _ hn) rfl hn e2]
    · cases hc
  · cases hc

theorem ext_sound (hA : AR ι N ρ a) {x : Operand} {i : Nat} (hok : [x].all okOpd = true) (hp : pureC (.ext i) [ev ρ x] = some v) :
    Runs P ι a w ⟨dst, .extract x i, type, pos, after, guard⟩ v := by
  have r1 := hA.ev (all1 hok)
  revert hp r1
  generalize ev ρ x = u
  intro hp r1
  cases u <;> first | (simp [pureC] at hp; done) | skip
  rename_i cs
  simp only [pureC] at hp
  obtain ⟨x', e, r⟩ := r1.tuple_inv
  obtain ⟨u', e2, r2⟩ := r.get hp
  exact ⟨u', by simp [execOp, e, Instr.extract, e2], r2⟩

theorem index_sound (hA : AR ι N ρ a) {t : TypeId} {x y : Operand} (hwf : ∀ t n, szOf P t = some n → (P.underlying t).isSome = true) (hc : compSh P (.index t x y) = some sh) (hok : [x, y].all okOpd = true) (hp : pureC sh [ev ρ x, ev ρ y] = some v) :
    Runs P ι a w ⟨dst, .index t x y, type, pos, after, guard⟩ v := by
  obtain ⟨h1, h2⟩ := all2 hok
  have r1 := hA.ev h1
  have r2 := hA.ev h2
  revert hp r1 r2
  generalize ev ρ x = u
  generalize ev ρ y = z
  intro hp r1 r2
  simp only [compSh] at hc
  split at hc
  · rename_i hu
    cases hc
    cases u <;> first | (simp [pureC] at hp; done) | skip
    cases z <;> first | (simp [pureC] at hp; done) | skip
    rename_i s k i
    simp only [pureC] at hp
    have q1 := r1.string
    have q2 := r2.int
    cases hb : (if 0 ≤ i then s[i.toNat]? else none) with
    | none => rw [hb] at hp; cases hp
    | some b =>
      rw [hb] at hp
      cases hp
      refine ⟨_, ?_, .base _ rfl⟩
      simp only [execOp, q1, q2, Instr.index, asIntOf, Sem.run_bind, Sem.run_pure, Result.andThen_ok, run_underlying w hu]
      simp only [hb]
      rfl
  · rename_i len e hu
    cases hn : szOf P e with
    | none => rw [hn] at hc; cases hc
    | some n =>
      rw [hn] at hc
      simp only [Option.map_some, Option.some.injEq] at hc
      subst hc
      cases u <;> first | (simp [pureC] at hp; done) | skip
      cases z <;> first | (simp [pureC] at hp; done) | skip
      rename_i cs k i
      simp only [pureC] at hp
      split at hp
      · rename_i hi
        obtain ⟨x', e1, r⟩ := r1.agg_inv
        have q2 := r2.int
        obtain ⟨u', e2, r3⟩ := part_rel r hp
        refine ⟨u', ?_, r3⟩
        simp [execOp, e1, q2, Instr.index, asIntOf, run_underlying w hu, hi, run_sizeOf w hn, run_part (hwf _ _ hn) rfl hn e2]
      · cases hp
  · cases hc

theorem run_places {fs : Array Field} {l : List (Nat × Nat)} (h : flds P fs.toList = some l) : (fs.mapM (fun f => (do pure (f.offset, ← sizeOf f.type) : Sem (Nat × Nat)))).run P w = .ok l.toArray w := by
  rw [Array.mapM_eq_mapM_toList, Sem.run_map]
  have : ∀ (fs : List Field) (l : List (Nat × Nat)), flds P fs = some l → (fs.mapM (fun f => (do pure (f.offset, ← sizeOf f.type) : Sem (Nat × Nat)))).run P w = .ok l w := by
    intro fs
    induction fs with
    | nil => intro l h; simp [flds] at h; subst h; simp
    | cons f fs ih =>
      intro l h
      simp only [flds] at h
      split at h
      · rename_i n r h1 h2
        cases h
        simp only [List.mapM_cons, Sem.run_bind, run_sizeOf w h1, Result.andThen_ok, Sem.run_pure, ih r h2]
      · cases h
  rw [this _ _ h]; rfl

theorem flat_cells {z : Value} (h : flat z = true) : VL ι z.cells.toList z.cells.toList := (VR.flat (ι := ι) h).cells.toList

theorem build_sound (hA : AR ι N ρ a) {t : TypeId} {ps : Array (Nat × Operand)} (hc : compSh P (.build t ps) = some sh) (hok : (ps.toList.map (·.2)).all okOpd = true) (hp : pureC sh ((ps.toList.map (·.2)).map (ev ρ)) = some v) :
    Runs P ι a w ⟨dst, .build t ps, type, pos, after, guard⟩ v := by
  have r1 := hA.evs hok
  revert hp r1
  generalize ((ps.toList.map (·.2)).map (ev ρ)) = us
  intro hp r1
  simp only [compSh] at hc
  split at hc
  · rename_i z fs hz hu
    split at hc
    · rename_i hfl
      split at hc
      · rename_i l hl
        cases hpl : plOf (l[·]?) ps.toList with
        | none => rw [hpl] at hc; cases hc
        | some pl =>
          rw [hpl] at hc
          simp only [Option.map_some, Option.some.injEq] at hc
          subst hc
          simp only [pureC] at hp
          split at hp
          · cases hfi : fillC z.cells.toList (pl.zip us) with
            | none => rw [hfi] at hp; cases hp
            | some y =>
              rw [hfi] at hp
              simp only [Option.map_some, Option.some.injEq] at hp
              subst hp
              obtain ⟨y', e1, e2⟩ := VL.fillC (flat_cells (ι := ι) hfl) r1 hfi
              rw [List.map_map] at e1
              have := fill_eq (l[·]?) a ps.toList pl z.cells y' hpl e1
              refine ⟨.agg y'.toArray, ?_, e2.toArray.agg⟩
              simp only [execOp, Instr.build, Sem.run_bind, run_zeroValue w hz, Result.andThen_ok, run_underlying w hu, run_places hl]
              rw [show (fun x : Nat => l.toArray[x]?) = (fun x => l[x]?) from funext (fun x => by simp)]
              rw [Array.toList_map, this]
              rfl
          · cases hp
      · cases hc
    · cases hc
  · rename_i z len e hz hu
    split at hc
    · rename_i hfl
      split at hc
      · rename_i n hn
        cases hpl : plOf (fun i => some (i * n, n)) ps.toList with
        | none => rw [hpl] at hc; cases hc
        | some pl =>
          rw [hpl] at hc
          simp only [Option.map_some, Option.some.injEq] at hc
          subst hc
          simp only [pureC] at hp
          split at hp
          · cases hfi : fillC z.cells.toList (pl.zip us) with
            | none => rw [hfi] at hp; cases hp
            | some y =>
              rw [hfi] at hp
              simp only [Option.map_some, Option.some.injEq] at hp
              subst hp
              obtain ⟨y', e1, e2⟩ := VL.fillC (flat_cells (ι := ι) hfl) r1 hfi
              rw [List.map_map] at e1
              have := fill_eq (fun i => some (i * n, n)) a ps.toList pl z.cells y' hpl e1
              refine ⟨.agg y'.toArray, ?_, e2.toArray.agg⟩
              simp only [execOp, Instr.build, Sem.run_bind, run_zeroValue w hz, Result.andThen_ok, run_underlying w hu, run_sizeOf w hn]
              rw [Array.toList_map, this]
              rfl
          · cases hp
      · cases hc
    · cases hc
  · cases hc

theorem faddr_sound (hA : AR ι N ρ a) {t : TypeId} {x : Operand} {f : Nat} (hc : compSh P (.fieldAddr t x f) = some sh) (hok : [x].all okOpd = true) (hp : pureC sh [ev ρ x] = some v) :
    Runs P ι a w ⟨dst, .fieldAddr t x f, type, pos, after, guard⟩ v := by
  have r1 := hA.ev (all1 hok)
  revert hp r1
  generalize ev ρ x = u
  intro hp r1
  simp only [compSh] at hc
  split at hc
  · rename_i fs hu
    split at hc
    · rename_i fl hf
      split at hc
      · rename_i n hn
        split at hc
        · cases hc
        · rename_i hn0
          cases hc
          cases u <;> first | (simp [pureC] at hp; done) | skip
          rename_i b
          cases b with
          | none => simp [pureC] at hp
          | some b =>
            simp only [pureC] at hp
            split at hp
            · rename_i hs
              cases hp
              obtain ⟨i, e1, _, e2⟩ := r1.ptr_inv
              refine ⟨.pointer (some ⟨i.blk, i.dl + (b.off + fl.offset), none⟩), ?_, .ptr ⟨b.block, b.off + fl.offset, none⟩ i e1 rfl⟩
              have : ({ block := i.blk, off := i.dl + b.off, spot := none } : Addr).add fl.offset = ⟨i.blk, i.dl + (b.off + fl.offset), none⟩ := by
                rw [Addr.add_lit]; congr 1; omega
              simp [execOp, e2, Instr.fieldAt, run_underlying w hu, hf, Instr.sureAddr, fieldPlace, run_sizeOf w hn, hn0, this]
            · cases hp
      · cases hc
    · cases hc
  · cases hc

theorem iaddr_sound (hA : AR ι N ρ a) {t : TypeId} {x y : Operand} (hc : compSh P (.indexAddr t x y) = some sh) (hok : [x, y].all okOpd = true) (hp : pureC sh [ev ρ x, ev ρ y] = some v) :
    Runs P ι a w ⟨dst, .indexAddr t x y, type, pos, after, guard⟩ v := by
  obtain ⟨h1, h2⟩ := all2 hok
  have r1 := hA.ev h1
  have r2 := hA.ev h2
  revert hp r1 r2
  generalize ev ρ x = u
  generalize ev ρ y = z
  intro hp r1 r2
  simp only [compSh] at hc
  split at hc
  · rename_i e hu
    cases hn : szOf P e with
    | none => rw [hn] at hc; cases hc
    | some n =>
      rw [hn] at hc
      simp only [Option.map_some, Option.some.injEq] at hc
      subst hc
      cases u <;> first | (simp [pureC] at hp; done) | skip
      rename_i b len cap
      cases b with
      | none => simp [pureC] at hp
      | some b =>
        cases z <;> first | (simp [pureC] at hp; done) | skip
        rename_i k i
        simp only [pureC] at hp
        split at hp
        · rename_i hi
          cases hp
          obtain ⟨j, a', c', e1, e2, e3, e4, e5, e6, e7, e8⟩ := r1.slice_inv
          have q2 := r2.int
          have hc0 : c' ≠ 0 := by omega
          obtain ⟨e9, e10⟩ := e6.resolve_left hc0
          subst e9
          refine ⟨.pointer (some ⟨j.blk, j.dl + (b.off + i.toNat * n), none⟩), ?_, .ptr ⟨b.block, b.off + i.toNat * n, none⟩ j e1 rfl⟩
          have : ({ block := j.blk, off := j.dl + b.off, spot := none } : Addr).add (i.toNat * n) = ⟨j.blk, j.dl + (b.off + i.toNat * n), none⟩ := by
            rw [Addr.add_lit]; congr 1; omega
          simp [execOp, e8, q2, Instr.indexAt, asIntOf, run_underlying w hu, hi.1, hi.2.1, run_sizeOf w hn, this]
        · cases hp
  · rename_i len e hu
    cases hn : szOf P e with
    | none => rw [hn] at hc; cases hc
    | some n =>
      rw [hn] at hc
      simp only [Option.map_some, Option.some.injEq] at hc
      subst hc
      cases u <;> first | (simp [pureC] at hp; done) | skip
      rename_i b
      cases b with
      | none => simp [pureC] at hp
      | some b =>
        cases z <;> first | (simp [pureC] at hp; done) | skip
        rename_i k i
        simp only [pureC] at hp
        split at hp
        · rename_i hi
          cases hp
          obtain ⟨j, e1, _, e8⟩ := r1.ptr_inv
          have q2 := r2.int
          refine ⟨.pointer (some ⟨j.blk, j.dl + (b.off + i.toNat * n), none⟩), ?_, .ptr ⟨b.block, b.off + i.toNat * n, none⟩ j e1 rfl⟩
          have : ({ block := j.blk, off := j.dl + b.off, spot := none } : Addr).add (i.toNat * n) = ⟨j.blk, j.dl + (b.off + i.toNat * n), none⟩ := by
            rw [Addr.add_lit]; congr 1; omega
          simp [execOp, e8, q2, Instr.indexAt, asIntOf, run_underlying w hu, hi.1, hi.2.1, run_sizeOf w hn, Instr.sureAddr, this]
        · cases hp
  · cases hc


theorem run_sliceBound {k : IntKind} {i : Int} {y : Nat} (code : BoundsCode) (h : 0 ≤ i ∧ i ≤ y) : (Instr.sliceBound (.int k i) y code).run P w = .ok i.toNat w := by
  simp [Instr.sliceBound, asIntOf, h]

/-- One of the three places, as an operand: what it is worth on both sides. -/
theorem optI_rel {b : Bool} {x : Option Operand} {xs : List Operand} {r : List Value} {o : Option Int} {us : List Value} (hx : x.isSome = b) (hr : VL ι us ((x.toList ++ xs).map a.eval)) (h : optI b us = some (o, r)) :
    VL ι r (xs.map a.eval) ∧ (o = none → x = none) ∧ ∀ i, o = some i → ∃ k y, x = some y ∧ a.eval y = .int k i := by
  cases x with
  | none =>
    simp at hx; subst hx
    simp only [optI, Option.some.injEq, Prod.mk.injEq] at h
    obtain ⟨rfl, rfl⟩ := h
    exact ⟨hr, fun _ => rfl, fun i e => by cases e⟩
  | some y =>
    simp at hx; subst hx
    cases us with
    | nil => simp [optI] at h
    | cons u us =>
      cases u <;> first | (simp [optI] at h; done) | skip
      rename_i k i
      simp only [optI, Option.some.injEq, Prod.mk.injEq] at h
      obtain ⟨rfl, rfl⟩ := h
      simp only [Option.toList, List.cons_append, List.nil_append, List.map_cons] at hr
      refine ⟨hr.tail, fun e => (by cases e), fun j e => ?_⟩
      cases e
      exact ⟨k, y, rfl, hr.head.int⟩

/-- The places of a cut, by the machine's own cap: only where the whole cap is kept does it come up. -/
theorem run_bounds {isSlice : Bool} {len cap cap' : Nat} {lo hi mx : Option Operand} {lo' hi' mx' : Option Int} (hcap : cap ≤ cap') {p : Nat × Nat × Nat} (h : bnds len cap lo' hi' mx' = some p)
    (hlo : lo' = none → lo = none) (hhi : hi' = none → hi = none) (hmx : mx' = none → mx = none) (glo : ∀ i, lo' = some i → ∃ k y, lo = some y ∧ a.eval y = .int k i)
    (ghi : ∀ i, hi' = some i → ∃ k y, hi = some y ∧ a.eval y = .int k i) (gmx : ∀ i, mx' = some i → ∃ k y, mx = some y ∧ a.eval y = .int k i) :
    (Instr.sliceBounds isSlice len cap' (lo.map a.eval) (hi.map a.eval) (mx.map a.eval)).run P w = .ok (p.1, p.2.1, if mx'.isSome then p.2.2 else cap') w ∧ p.1 ≤ p.2.1 ∧ (mx'.isSome = false → p.2.2 = cap) ∧ (len ≤ cap → p.2.1 ≤ p.2.2) ∧ p.2.2 ≤ cap := by
  unfold bnds at h
  have hm : ∃ m, bnd mx' cap cap = some m ∧ m ≤ cap ∧ (mx'.isSome = false → m = cap) ∧ (match mx' with | some i => 0 ≤ i ∧ i ≤ cap ∧ m = i.toNat | none => True) := by
    cases mx' with
    | none => exact ⟨cap, rfl, Nat.le_refl _, fun _ => rfl, trivial⟩
    | some i =>
      simp only [bnd] at h ⊢
      by_cases hi : 0 ≤ i ∧ i ≤ (cap : Int)
      · rw [if_pos hi]; exact ⟨i.toNat, rfl, by omega, fun e => (by cases e), hi.1, hi.2, rfl⟩
      · rw [if_neg hi] at h; cases h
  obtain ⟨m, hm1, hm2, hm3, hm4⟩ := hm
  simp only [hm1] at h
  split at h
  · cases h
  · rename_i hn1
    cases hh : bnd hi' m len with
    | none => simp only [hh] at h; cases h
    | some hv =>
      simp only [hh] at h
      cases hl : bnd lo' hv 0 with
      | none => simp only [hl] at h; cases h
      | some lv =>
        simp only [hl, Option.some.injEq] at h
        subst h
        have hlv : lv ≤ hv := by
          cases lo' with
          | none => simp [bnd] at hl; omega
          | some i => simp only [bnd] at hl; split at hl <;> first | (cases hl; omega) | cases hl
        have hhv : len ≤ cap → hv ≤ m := by
          intro hlc
          cases hi' with
          | none =>
            simp [bnd] at hh
            have : mx'.isSome = false := by cases mx' <;> simp_all
            have := hm3 this
            omega
          | some i => simp only [bnd] at hh; split at hh <;> first | (cases hh; omega) | cases hh
        refine ⟨?_, hlv, hm3, hhv, hm2⟩
        have hle : m ≤ (if mx'.isSome then m else cap') := by split <;> omega
        have bl : ∀ (code : BoundsCode) (k : IntKind) (i : Int), lo' = some i → (Instr.sliceBound (.int k i) hv code).run P w = .ok lv w := by
          intro code k i e
          subst e
          simp only [bnd] at hl
          split at hl
          · rename_i hb; cases hl; exact run_sliceBound _ hb
          · cases hl
        have bh : ∀ (code : BoundsCode) (k : IntKind) (i : Int), hi' = some i → (Instr.sliceBound (.int k i) (if mx'.isSome then m else cap') code).run P w = .ok hv w := by
          intro code k i e
          subst e
          simp only [bnd] at hh
          split at hh
          · rename_i hb; cases hh; exact run_sliceBound _ ⟨hb.1, by omega⟩
          · cases hh
        cases mx' with
        | none =>
          rw [hmx rfl]
          simp only [Option.isSome_none, Bool.false_eq_true, if_false] at bh ⊢
          cases hi' with
          | none =>
            rw [hhi rfl]
            simp [bnd] at hh
            subst hh
            cases lo' with
            | none => rw [hlo rfl]; simp [bnd] at hl; subst hl; simp [Instr.sliceBounds]
            | some i => obtain ⟨k, y, e1, e2⟩ := glo i rfl; rw [e1]; simp [Instr.sliceBounds, e2, bl]
          | some ih =>
            obtain ⟨kh, yh, e1h, e2h⟩ := ghi ih rfl
            rw [e1h]
            cases lo' with
            | none => rw [hlo rfl]; simp [bnd] at hl; subst hl; simp [Instr.sliceBounds, e2h, bh]
            | some i => obtain ⟨k, y, e1, e2⟩ := glo i rfl; rw [e1]; simp [Instr.sliceBounds, e2, e2h, bl, bh]
        | some im =>
          obtain ⟨km, ym, e1m, e2m⟩ := gmx im rfl
          rw [e1m]
          have bm : ∀ (code : BoundsCode), (Instr.sliceBound (.int km im) cap' code).run P w = .ok m w := by
            intro code; rw [hm4.2.2]; exact run_sliceBound _ ⟨hm4.1, by omega⟩
          simp only [Option.isSome_some, if_true] at bh ⊢
          cases hi' with
          | none => exact absurd ⟨rfl, rfl⟩ hn1
          | some ih =>
            obtain ⟨kh, yh, e1h, e2h⟩ := ghi ih rfl
            rw [e1h]
            cases lo' with
            | none => rw [hlo rfl]; simp [bnd] at hl; subst hl; simp [Instr.sliceBounds, e2h, bh, e2m, bm]
            | some i => obtain ⟨k, y, e1, e2⟩ := glo i rfl; rw [e1]; simp [Instr.sliceBounds, e2, e2h, bl, bh, e2m, bm]

theorem slice_opds (t : TypeId) (x : Operand) (lo hi mx : Option Operand) : opdsOf (.slice t x lo hi mx) = x :: (lo.toList ++ (hi.toList ++ (mx.toList ++ []))) := by
  simp [opdsOf, Op.operands]

theorem slcS_sound (hA : AR ι N ρ a) {t : TypeId} {x : Operand} {lo hi mx : Option Operand} (hc : compSh P (.slice t x lo hi mx) = some sh) (hok : (opdsOf (.slice t x lo hi mx)).all okOpd = true)
    (hp : pureC sh ((opdsOf (.slice t x lo hi mx)).map (ev ρ)) = some v) : Runs P ι a w ⟨dst, .slice t x lo hi mx, type, pos, after, guard⟩ v := by
  have r0 := hA.evs hok
  rw [slice_opds] at r0 hp
  simp only [List.map_cons] at hp r0
  revert hp r0
  generalize ev ρ x = u
  generalize ((lo.toList ++ (hi.toList ++ (mx.toList ++ []))).map (ev ρ)) = us
  intro hp r0
  simp only [compSh] at hc
  have r1 : VR ι u (a.eval x) := r0.head
  have r2 : VL ι us ((lo.toList ++ (hi.toList ++ (mx.toList ++ []))).map a.eval) := r0.tail
  split at hc
  · rename_i hu
    split at hc
    · cases hc
    · rename_i hmx
      cases hc
      have hmx0 : mx = none := by cases mx <;> simp_all
      cases u <;> first | (simp [pureC] at hp; done) | skip
      rename_i s
      simp only [pureC] at hp
      split at hp
      · rename_i l? r1' hl
        split at hp
        · rename_i h? hh
          obtain ⟨q1, q2, q3⟩ := optI_rel rfl r2 hl
          obtain ⟨q4, q5, q6⟩ := optI_rel rfl q1 hh
          cases hb : bnds s.size s.size l? h? none with
          | none => rw [hb] at hp; cases hp
          | some p =>
            rw [hb] at hp
            simp only [Option.map_some, Option.some.injEq] at hp
            subst hp
            have hrb := run_bounds (P := P) (w := w) (isSlice := false) (lo := lo) (hi := hi) (mx := none) (Nat.le_refl _) hb q2 q5 (fun _ => rfl) q3 q6 (fun i e => by cases e)
            refine ⟨_, ?_, .base _ rfl⟩
            simp only [execOp, r1.string, hmx0, Option.map_none, Instr.sliceAt, Instr.slice, Sem.run_bind, run_underlying w hu, Result.andThen_ok, Option.isSome_none, Bool.false_eq_true, if_false]
            rw [Option.map_none] at hrb
            rw [hrb.1]
            rfl
        · cases hp
      · cases hp
  · split at hc
    · split at hc
      · cases hc; cases u <;> simp [pureC] at hp
      · cases hc
    · cases hc
  · cases hc

theorem slc_sound (hA : AR ι N ρ a) {h : CH} (hR : HR ι h w) {t : TypeId} {x : Operand} {lo hi mx : Option Operand} (hc : compSh P (.slice t x lo hi mx) = some sh) (hok : (opdsOf (.slice t x lo hi mx)).all okOpd = true)
    (hp : readC sh ((opdsOf (.slice t x lo hi mx)).map (ev ρ)) h = some v) : Runs P ι a w ⟨dst, .slice t x lo hi mx, type, pos, after, guard⟩ v := by
  have r0 := hA.evs hok
  rw [slice_opds] at r0 hp
  simp only [List.map_cons] at hp r0
  revert hp r0
  generalize ev ρ x = u
  generalize ((lo.toList ++ (hi.toList ++ (mx.toList ++ []))).map (ev ρ)) = us
  intro hp r0
  simp only [compSh] at hc
  have r1 : VR ι u (a.eval x) := r0.head
  have r2 : VL ι us ((lo.toList ++ (hi.toList ++ (mx.toList ++ []))).map a.eval) := r0.tail
  split at hc
  · split at hc
    · cases hc
    · cases hc; cases u <;> simp [readC] at hp
  · rename_i e hu
    split at hc
    · rename_i n hn
      split at hc
      · rename_i hn0
        cases hc
        cases u <;> first | (simp [readC] at hp; done) | skip
        rename_i b len cap
        simp only [readC] at hp
        by_cases hk : slk h n b = true
        case neg => rw [if_neg hk] at hp; cases hp
        rw [if_pos hk] at hp
        split at hp
        · rename_i l? r1' hl
          split at hp
          · rename_i h? r2' hh
            split at hp
            · rename_i m? hm
              obtain ⟨q1, q2, q3⟩ := optI_rel rfl r2 hl
              obtain ⟨q4, q5, q6⟩ := optI_rel rfl q1 hh
              obtain ⟨_, q8, q9⟩ := optI_rel rfl q4 hm
              cases hb : bnds len cap l? h? m? with
              | none => rw [hb] at hp; cases hp
              | some p =>
                rw [hb] at hp
                simp only [Option.map_some, Option.some.injEq] at hp
                subst hp
                cases b with
                | none =>
                  obtain ⟨z1, z2, z3⟩ := r1.slice_none
                  subst z1; subst z2
                  have hrb := run_bounds (P := P) (w := w) (isSlice := true) (lo := lo) (hi := hi) (mx := mx) (Nat.le_refl _) hb q2 q5 q8 q3 q6 q9
                  obtain ⟨g1, g2, g3, g4, g5⟩ := hrb
                  refine ⟨.slice none 0 0, ?_, ?_⟩
                  · simp only [execOp, z3, Instr.sliceAt, Instr.slice, Sem.run_bind, run_underlying w hu, Result.andThen_ok]
                    rw [g1]
                    have e1 : p.2.1 - p.1 = 0 := by omega
                    have e2 : (if m?.isSome = true then p.2.2 else 0) - p.1 = 0 := by split <;> omega
                    simp only [Result.andThen_ok, run_sizeOf w hn, Sem.run_pure, e1, e2, Option.map_none, ite_self]
                  · have e1 : p.2.1 - p.1 = 0 := by omega
                    have e2 : p.2.2 - p.1 = 0 := by omega
                    rw [e1, e2]; exact .base _ rfl
                | some b =>
                  obtain ⟨j, a', c', e1, e2, e3, e4, e5, e6, e7, e8⟩ := r1.slice_inv
                  have hjk : j.k = n := by
                    have hO := hR.obj _ _ e1
                    simp only [slk, beq_iff_eq] at hk
                    exact hO.kk.trans hk
                  rw [hjk] at e4 e6 e7
                  have hrb := run_bounds (P := P) (w := w) (isSlice := true) (lo := lo) (hi := hi) (mx := mx) e5 hb q2 q5 q8 q3 q6 q9
                  obtain ⟨g1, g2, g3, g4, g5⟩ := hrb
                  refine ⟨.slice (some (if (if m?.isSome = true then p.2.2 else c') = p.1 then a' else a'.add (p.1 * n))) (p.2.1 - p.1) ((if m?.isSome = true then p.2.2 else c') - p.1), ?_, ?_⟩
                  · simp only [execOp, e8, Instr.sliceAt, Instr.slice, Sem.run_bind, run_underlying w hu, Result.andThen_ok]
                    rw [g1]
                    simp only [Result.andThen_ok, run_sizeOf w hn, Sem.run_pure, Option.map_some, apply_ite some]
                  · generalize hM : (if m?.isSome = true then p.2.2 else c') = M
                    have hM1 : p.2.2 ≤ M ∧ M ≤ c' ∧ (m?.isSome = true → M = p.2.2) ∧ (m?.isSome = false → M = c' ∧ p.2.2 = cap) := by
                      subst hM
                      cases hm? : m?.isSome
                      · have := g3 hm?
                        rw [if_neg (by simp)]
                        exact ⟨by omega, Nat.le_refl _, fun q => (by cases q), fun _ => ⟨rfl, this⟩⟩
                      · rw [if_pos rfl]
                        exact ⟨Nat.le_refl _, by omega, fun _ => rfl, fun q => (by cases q)⟩
                    obtain ⟨m1, m2, m3, m4⟩ := hM1
                    have g4' := g4 e3
                    have hp0 : p.1 ≤ cap := by omega
                    have hp1 : p.1 * n ≤ p.2.2 * n := Nat.mul_le_mul_right n (by omega)
                    have hp5 : p.1 * n ≤ M * n := Nat.mul_le_mul_right n (by omega)
                    have hp2 : p.2.2 * n ≤ cap * n := Nat.mul_le_mul_right n g5
                    have hp3 : M * n ≤ c' * n := Nat.mul_le_mul_right n m2
                    have hp4 : p.1 * n ≤ cap * n := Nat.mul_le_mul_right n hp0
                    have hs1 : (p.2.2 - p.1) * n = p.2.2 * n - p.1 * n := Nat.sub_mul _ _ _
                    have hs2 : (M - p.1) * n = M * n - p.1 * n := Nat.sub_mul _ _ _
                    refine .slice ⟨b.block, b.off + p.1 * n, none⟩ _ j _ _ _ e1 rfl ?_ ?_ (by omega) ?_ ?_
                    · omega
                    · rw [hjk, hs1]; simp only; omega
                    · rw [hjk, hs2]
                      by_cases hMp : M = p.1
                      · exact .inl (by omega)
                      · right
                        rw [if_neg hMp]
                        have hc0 : c' ≠ 0 := by omega
                        obtain ⟨e9, e10⟩ := e6.resolve_left hc0
                        subst e9
                        refine ⟨by rw [Addr.add_lit]; show (⟨j.blk, j.dl + b.off + p.1 * n, none⟩ : Addr) = ⟨j.blk, j.dl + (b.off + p.1 * n), none⟩; congr 1; omega, ?_⟩
                        show j.dl + (b.off + p.1 * n) + (M * n - p.1 * n) ≤ j.tot
                        omega
                    · rw [hjk, hs1]
                      intro hne
                      cases hm? : m?.isSome
                      · obtain ⟨m5, m6⟩ := m4 hm?
                        have := e7 (fun ⟨z1, z2⟩ => hne ⟨z1, by rw [m6]; simp only; rw [m6] at hp1; omega⟩)
                        omega
                      · have := m3 hm?
                        omega
            · cases hp
          · cases hp
        · cases hp
      · cases hc
    · cases hc
  · cases hc


theorem lenS_inv {us : List Value} (h : pureC .lenS us = some v) : ∃ s, us = [.string s] ∧ v = .int .i64 s.size := by
  rcases us with _ | ⟨u, _ | ⟨z, us⟩⟩
  · simp [pureC] at h
  · cases u <;> simp [pureC] at h
    exact ⟨_, rfl, h.symm⟩
  · cases u <;> simp [pureC] at h
theorem lenL_inv {us : List Value} (h : pureC .lenL us = some v) : ∃ b n c, us = [.slice b n c] ∧ v = .int .i64 n := by
  rcases us with _ | ⟨u, _ | ⟨z, us⟩⟩
  · simp [pureC] at h
  · cases u <;> simp [pureC] at h
    exact ⟨_, _, _, rfl, h.symm⟩
  · cases u <;> simp [pureC] at h
theorem mn_inv {us : List Value} (h : pureC .mn us = some v) : ∃ k x l y, us = [.int k x, .int l y] ∧ v = .int k (if y < x then y else x) := by
  rcases us with _ | ⟨u, _ | ⟨z, _ | ⟨z2, us⟩⟩⟩
  · simp [pureC] at h
  · cases u <;> simp [pureC] at h
  · cases u <;> cases z <;> simp [pureC] at h
    exact ⟨_, _, _, _, rfl, h.symm⟩
  · cases u <;> cases z <;> simp [pureC] at h
theorem mx_inv {us : List Value} (h : pureC .mx us = some v) : ∃ k x l y, us = [.int k x, .int l y] ∧ v = .int k (if y > x then y else x) := by
  rcases us with _ | ⟨u, _ | ⟨z, _ | ⟨z2, us⟩⟩⟩
  · simp [pureC] at h
  · cases u <;> simp [pureC] at h
  · cases u <;> cases z <;> simp [pureC] at h
    exact ⟨_, _, _, _, rfl, h.symm⟩
  · cases u <;> cases z <;> simp [pureC] at h

theorem len_sound (hA : AR ι N ρ a) {c : Call} (hc : compSh P (.call c) = some sh) (hsh : sh = .lenS ∨ sh = .lenL ∨ sh = .mn ∨ sh = .mx) (hok : (opdsOf (.call c)).all okOpd = true)
    (hp : pureC sh ((opdsOf (.call c)).map (ev ρ)) = some v) : Runs P ι a w ⟨dst, .call c, type, pos, after, guard⟩ v := by
  obtain ⟨callee, args, argTypes⟩ := c
  cases callee with
  | invoke r m => simp [compSh] at hc
  | value f =>
    cases f with
    | tmp t => simp [compSh] at hc; subst hc; simp at hsh
    | const _ => simp [compSh] at hc
    | global _ => simp [compSh] at hc
    | func f =>
      simp only [compSh] at hc
      split at hc
      · split at hc
        · cases hc; simp at hsh
        · cases hc
      · cases hc
  | builtin b =>
    have hops : opdsOf (.call ⟨.builtin b, args, argTypes⟩) = args.toList := rfl
    rw [hops] at hok hp
    have r0 := hA.evs hok
    revert hp r0
    generalize args.toList.map (ev ρ) = us
    intro hp r0
    have run : ∀ u : Value, (Go.builtin b argTypes type (args.map fun | .const _ => true | _ => false) (args.map a.eval)).run P w = .ok (.value u) w →
        (execOp a.eval ⟨dst, .call ⟨.builtin b, args, argTypes⟩, type, pos, after, guard⟩).run P w = .ok (.value u) w := by
      intro u h
      simp only [execOp, resolve, Sem.run_bind, Sem.run_pure, Result.andThen_ok, invoke]
      exact h
    have harr : ∀ (l : List Value), args.toList.map a.eval = l → args.map a.eval = l.toArray := by
      intro l h
      rw [← h]; apply Array.ext'; simp
    have one : ∀ u, us = [u] → ∃ u', VR ι u u' ∧ args.map a.eval = #[u'] := by
      intro u e
      subst e
      obtain ⟨u', y', e1, e2, e3⟩ := r0.cons_inv
      rw [e3.nil_inv] at e1
      exact ⟨u', e2, harr _ e1⟩
    have two : ∀ u z, us = [u, z] → ∃ u' z', VR ι u u' ∧ VR ι z z' ∧ args.map a.eval = #[u', z'] := by
      intro u z e
      subst e
      obtain ⟨u', y', e1, e2, e3⟩ := r0.cons_inv
      obtain ⟨z', y2, e4, e5, e6⟩ := e3.cons_inv
      rw [e6.nil_inv] at e4
      subst e4
      exact ⟨u', z', e2, e5, harr _ e1⟩
    cases b <;> simp only [compSh] at hc <;> first | (cases hc; done) | skip
    · -- append
      split at hc <;> first | (cases hc; done) | skip
      split at hc <;> first | (cases hc; done) | skip
      all_goals
        split at hc <;> first | (cases hc; done) | skip
        split at hc <;> first | (cases hc; done) | skip
        cases hc; simp at hsh
    · -- cap
      split at hc <;> first | (cases hc; done) | skip
      split at hc <;> first | (cases hc; done) | skip
      rename_i e _
      cases hn : szOf P e with
      | none => rw [hn] at hc; cases hc
      | some n => rw [hn] at hc; cases hc; simp at hsh
    · -- copy
      split at hc <;> first | (cases hc; done) | skip
      split at hc <;> first | (cases hc; done) | skip
      split at hc <;> first | (cases hc; done) | skip
      split at hc <;> first | (cases hc; done) | skip
      cases hc; simp at hsh
    · -- len
      split at hc
      · rename_i t ht
        split at hc
        · rename_i hu
          cases hc
          obtain ⟨s, e1, e2⟩ := lenS_inv hp
          obtain ⟨u', e3, e4⟩ := one _ e1
          subst e2
          refine ⟨_, run _ ?_, .base _ rfl⟩
          rw [e4, e3.string]
          simp [Go.builtin, Builtin.len_, ht, run_underlying w hu, goInt]
        · rename_i e hu
          cases hc
          obtain ⟨b, n, c, e1, e2⟩ := lenL_inv hp
          obtain ⟨u', e3, e4⟩ := one _ e1
          subst e2
          refine ⟨_, run _ ?_, .base _ rfl⟩
          have : ∃ b' c', u' = .slice b' n c' := by
            cases b with
            | none => obtain ⟨z1, z2, z3⟩ := e3.slice_none; subst z1; exact ⟨_, _, z3⟩
            | some b => obtain ⟨_, a', c', _, _, _, _, _, _, _, z⟩ := e3.slice_inv; exact ⟨_, _, z⟩
          obtain ⟨b', c', e5⟩ := this
          rw [e4, e5]
          simp [Go.builtin, Builtin.len_, ht, run_underlying w hu, goInt]
        · cases hc
      · cases hc
    · cases hc
      obtain ⟨k, x, l, y, e1, e2⟩ := mx_inv hp
      obtain ⟨u', z', e3, e4, e5⟩ := two _ _ e1
      subst e2
      refine ⟨_, run _ ?_, .base _ rfl⟩
      rw [e5, e3.int, e4.int]
      simp [Go.builtin, Builtin.max_, Builtin.max2]
    · cases hc
      obtain ⟨k, x, l, y, e1, e2⟩ := mn_inv hp
      obtain ⟨u', z', e3, e4, e5⟩ := two _ _ e1
      subst e2
      refine ⟨_, run _ ?_, .base _ rfl⟩
      rw [e5, e3.int, e4.int]
      simp [Go.builtin, Builtin.min_, Builtin.min2]

theorem mkI_sound (hA : AR ι N ρ a) {t : TypeId} {x : Operand} (hc : compSh P (.makeInterface t x) = some sh) (hok : [x].all okOpd = true) (hp : pureC sh [ev ρ x] = some v) :
    Runs P ι a w ⟨dst, .makeInterface t x, type, pos, after, guard⟩ v := by
  have r1 := hA.ev (all1 hok)
  simp only [compSh] at hc
  split at hc <;> first | (cases hc; done) | skip
  rename_i hu1 d hu hnot
  cases hc
  simp only [pureC, Option.some.injEq] at hp
  subst hp
  refine ⟨_, ?_, .iface _ _ _ r1⟩
  simp only [execOp, Instr.makeInterface, Sem.run_bind, run_underlying w hnot, Result.andThen_ok]
  rfl

theorem mkF_sound (hA : AR ι N ρ a) {fn : Fn} {x y : Array Operand} (hok : (opdsOf (.makeFunc fn x y)).all okOpd = true) (hp : pureC (.mkF fn x.size) ((opdsOf (.makeFunc fn x y)).map (ev ρ)) = some v) :
    Runs P ι a w ⟨dst, .makeFunc fn x y, type, pos, after, guard⟩ v := by
  have r0 := hA.evs hok
  have hops : opdsOf (.makeFunc fn x y) = x.toList ++ y.toList := by simp [opdsOf, Op.operands]
  rw [hops] at r0 hp
  simp only [pureC, Option.some.injEq] at hp
  subst hp
  have e1 := r0.take x.size
  have e2 := r0.drop x.size
  rw [List.map_append (f := a.eval)] at e1 e2
  have hl : (x.toList.map a.eval).length = x.size := by simp
  rw [List.take_left' hl] at e1
  rw [List.drop_left' hl] at e2
  refine ⟨.func fn (x.map a.eval) (y.map a.eval), by simp [execOp, Instr.makeFunc], ?_⟩
  have g1 := e1.toArray
  have g2 := e2.toArray
  have q1 : (x.toList.map a.eval).toArray = x.map a.eval := by apply Array.ext'; simp
  have q2 : (y.toList.map a.eval).toArray = y.map a.eval := by apply Array.ext'; simp
  rw [q1] at g1
  rw [q2] at g2
  exact .func _ _ _ _ _ g1.1 g2.1 g1.2 g2.2

theorem nilc_sound (hA : AR ι N ρ a) {x : Operand} (hok : [x].all okOpd = true) (hp : pureC .nilc [ev ρ x] = some v) :
    Runs P ι a w ⟨dst, .nilCheck x, type, pos, after, guard⟩ v := by
  have r1 := hA.ev (all1 hok)
  revert hp r1
  generalize ev ρ x = u
  intro hp r1
  cases u <;> first | (simp [pureC] at hp; done) | skip
  rename_i b
  cases b with
  | none => simp [pureC] at hp
  | some b =>
    simp only [pureC, Option.some.injEq] at hp
    subst hp
    obtain ⟨i, _, _, e⟩ := r1.ptr_inv
    refine ⟨_, ?_, r1⟩
    rw [e]
    simp [execOp, e]

/-- All of them. -/
theorem pure_sound (hA : AR ι N ρ a) {op : Op} (hwf : ∀ t n, szOf P t = some n → (P.underlying t).isSome = true) (hc : compSh P op = some sh) (hok : (opdsOf op).all okOpd = true) (hp : pureC sh ((opdsOf op).map (ev ρ)) = some v) :
    Runs P ι a w ⟨dst, op, type, pos, after, guard⟩ v := by
  cases op
  case move x => simp [compSh] at hc; subst hc; have r := hA.ev (all1 hok); simp [pureC, opdsOf, Op.operands] at hp; subst hp; exact ⟨_, by simp [execOp], r⟩
  case assign x => simp [compSh] at hc; subst hc; have r := hA.ev (all1 hok); simp [pureC, opdsOf, Op.operands] at hp; subst hp; exact ⟨_, by simp [execOp], r⟩
  case pick c x y => simp [compSh] at hc; subst hc; exact pick_sound hA hok hp
  case build t ps => exact build_sound hA hc hok hp
  case binOp op t x y yt =>
    have key : ∀ neg, compEq P neg t = some sh → Runs P ι a w ⟨dst, .binOp (if neg then .neq else .eql) t x y yt, type, pos, after, guard⟩ v := by
      intro neg h
      unfold compEq at h
      split at h
      · cases h; exact bin_sound hA hok hp
      · cases h; exact bin_sound hA hok hp
      · rename_i hu; cases h; exact eqB_sound hA hu hok hp
      · cases h
    cases op <;> first
      | (exact key false hc)
      | (exact key true hc)
      | (simp only [compSh, Option.some.injEq] at hc; subst hc; exact bin_sound hA hok hp)
  case unOp op t x => simp [compSh] at hc; subst hc; exact un_sound hA hok hp
  case convert s d x => exact conv_sound hA hc hok hp
  case makeFunc fn x y => simp [compSh] at hc; subst hc; exact mkF_sound hA hok hp
  case makeInterface t x => exact mkI_sound hA hc hok hp
  case slice t x lo hi mx => exact slcS_sound hA hc hok hp
  case fieldAddr t x f => exact faddr_sound hA hc hok hp
  case field t x f => exact field_sound hA hwf hc hok hp
  case indexAddr t x y => exact iaddr_sound hA hc hok hp
  case index t x y => exact index_sound hA hwf hc hok hp
  case extract x i => simp [compSh] at hc; subst hc; exact ext_sound hA hok hp
  case nilCheck x => simp [compSh] at hc; subst hc; exact nilc_sound hA hok hp
  case call c =>
    refine len_sound hA hc ?_ hok hp
    revert hp
    generalize (opdsOf (.call c)).map (ev ρ) = us
    intro hp
    obtain ⟨callee, args, argTypes⟩ := c
    cases callee with
    | invoke r m => simp [compSh] at hc
    | value f =>
      cases f <;> simp only [compSh] at hc <;> (repeat' split at hc) <;> first | (cases hc; done) | (cases hc; simp [pureC] at hp)
    | builtin b =>
      cases b <;> simp only [compSh] at hc <;> (repeat' split at hc) <;> first | (cases hc; done) | (cases hc; simp; done) | (cases hc; simp [pureC] at hp; done) | skip
      all_goals
        rename_i e _
        cases hn : szOf P e with
        | none => rw [hn] at hc; cases hc
        | some n => rw [hn] at hc; cases hc; simp [pureC] at hp
  all_goals
    simp only [compSh] at hc
    (repeat' split at hc) <;> first | (cases hc; done) | (cases hc; simp [pureC] at hp; done) | skip
  all_goals
    simp only [Option.map_eq_some_iff] at hc
    obtain ⟨_, _, rfl⟩ := hc
    simp [pureC] at hp

end
end Go.Proofs.Ytdfmdclfnhgjiaa.Can
