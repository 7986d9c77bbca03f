/- What comes in, read into trees.
   Conditions: the types are plain (closedT). -/
import Derived.Test.YtdfmdclfnhgjiaaCanX
import Derived.DataReads
set_option linter.unusedVariables false
set_option linter.unusedSimpArgs false
namespace Go.Proofs.Ytdfmdclfnhgjiaa.Can
open Go

mutual
/-- A tree of a type. -/
def DT (P : Program) : D → TypeId → Prop
  | .val x, t => match P.underlying t, x with
    | some .bool, .bool _ => True
    | some (.int k), .int k' n => k' = k ∧ (Lit.int k n).wf = true
    | some .string, .string s => s.size ≤ maxLen
    | _, _ => False
  | .str ds, t => ∃ fs, P.underlying t = some (.struct fs) ∧ DTs P ds (fs.toList.map (·.type))
  | .arr k ds, t => ∃ e, P.underlying t = some (.slice e) ∧ k = P.cellsOf e ∧ ds.length ≤ maxLen ∧ DTa P ds e
def DTs (P : Program) : List D → List TypeId → Prop
  | [], [] => True
  | d :: ds, t :: ts => DT P d t ∧ DTs P ds ts
  | _, _ => False
def DTa (P : Program) : List D → TypeId → Prop
  | [], _ => True
  | d :: ds, e => DT P d e ∧ DTa P ds e
end

/-- The fields lie one behind the other. -/
def layB (P : Program) (L : List TypeId) : List Field → Nat → Nat → Bool
  | [], a, n => a == n
  | f :: r, a, n => f.offset == a && L.contains f.type && layB P L r (a + P.cellsOf f.type) n

/-- Plain types, closed under their parts. -/
def closedT (P : Program) (L : List TypeId) : Bool := L.all fun t => match P.underlying t with
  | some .bool | some (.int _) | some .string => P.cellsOf t == 1
  | some (.slice e) => L.contains e && decide (0 < P.cellsOf e) && P.cellsOf t == 1
  | some (.struct fs) => layB P L fs.toList 0 (P.cellsOf t)
  | _ => false

def NoOwn (h : CH) : Prop := ∀ o, (h.at_ o).own = false
/-- A slice among these cells tells that the heap has a block of cells. -/
def Spot (w : World) (cs : List Value) : Prop := ∀ a len cap, Value.slice (some a) len cap ∈ cs → ∃ (b : Nat) (C : Array Value) (e : TypeId) (fz : Nat × Nat), w.heap[b]? = some (Obj.cells C e fz)

structure Got (w : World) (ι : Map) (h : CH) (ι' : Map) (h' : CH) : Prop where
  le : ι.le ι'
  ext : Ext h h'
  rel : HR ι' h' w
  no : NoOwn h'
theorem Got.trans {w : World} {ι ι' ι2 : Map} {h h' h2 : CH} (a : Got w ι h ι' h') (b : Got w ι' h' ι2 h2) : Got w ι h ι2 h2 := ⟨Map.le_trans a.le b.le, a.ext.trans b.ext, b.rel, b.no⟩
theorem Got.refl {w : World} {ι : Map} {h : CH} (r : HR ι h w) (n : NoOwn h) : Got w ι h ι h := ⟨ι.le_refl, Ext.refl h, r, n⟩

section
variable {H : Type} {enc : TypeId × Value → H} {P : Program} {w : World} {L : List TypeId}

def Come (enc : TypeId × Value → H) (P : Program) (w : World) (L : List TypeId) (fuel : Nat) : Prop :=
  ∀ (t : TypeId) (cs : List Value) (y : DataW H × List MemPlace) (ι : Map) (h : CH), L.contains t = true → DataW.trod enc P w 0 (fun _ => true) true fuel t cs = some y → HR ι h w → NoOwn h → Spot w cs →
    ∃ ι' h' cs' d, Got w ι h ι' h' ∧ VL ι' cs' cs ∧ Rd h' (· < h'.size) d cs' ∧ DT P d t ∧ wid d = P.cellsOf t

theorem comeL {fuel : Nat} (F : Come enc P w L fuel) : ∀ (l : List (TypeId × List Value)) (ι : Map) (h : CH), (∀ x ∈ l, L.contains x.1 = true ∧ (∃ y, DataW.trod enc P w 0 (fun _ => true) true fuel x.1 x.2 = some y) ∧ Spot w x.2) → HR ι h w → NoOwn h →
    ∃ ι' h' cs' ds, Got w ι h ι' h' ∧ VL ι' cs' (l.map (·.2)).flatten ∧ Rds h' (· < h'.size) ds cs' ∧ DTs P ds (l.map (·.1)) ∧ ds.map wid = l.map fun x => P.cellsOf x.1
  | [], ι, h, _, hr, hn => ⟨ι, h, [], [], Got.refl hr hn, .nil ι, by simp [Rds], by simp [DTs], rfl⟩
  | x :: l, ι, h, hx, hr, hn => by
    obtain ⟨h1, ⟨y, h2⟩, h3⟩ := hx x List.mem_cons_self
    obtain ⟨ι1, k1, c1, d1, g1, v1, r1, t1, w1⟩ := F x.1 x.2 y ι h h1 h2 hr hn h3
    obtain ⟨ι2, k2, c2, d2, g2, v2, r2, t2, w2⟩ := comeL F l ι1 k1 (fun z hz => hx z (List.mem_cons_of_mem _ hz)) g1.rel g1.no
    refine ⟨ι2, k2, c1 ++ c2, d1 :: d2, g1.trans g2, ?_, ?_, ?_, ?_⟩
    · simpa using (v1.mono g2.le).append v2
    · simp only [Rds]
      exact ⟨c1, c2, rfl, (r1.ext (fun n hn => hn) g2.ext).wide (fun n hn => Nat.lt_of_lt_of_le hn g2.ext.size), r2⟩
    · simp only [List.map_cons, DTs]; exact ⟨t1, t2⟩
    · simp only [List.map_cons, w1, w2]

theorem cells_row {b : Addr} {k : Nat} {c : List Value} {C : Array Value} {et : TypeId} {fz : Nat × Nat} (hb : w.heap[b.block]? = some (Obj.cells C et fz)) (h : w.cells? 0 b k = some c) (hk : 0 < k) : b.spot = none ∧ b.off + k ≤ C.size ∧ c = (C.toList.drop b.off).take k := by
  obtain ⟨_, hl, hc⟩ := World.cells?_some h
  have cell : ∀ i, i < k → (b.add i).spot = none ∧ C[b.off + i]? = c[i]? ∧ i < c.length := by
    intro i hi
    have h1 := hc i hi
    have hi2 : i < c.length := by omega
    have hblk : (b.add i).block = b.block := by unfold Addr.add; split <;> rfl
    have hoff : (b.add i).off = b.off + i := by
      unfold Addr.add; split
      · rename_i e; rw [e]; rfl
      · rfl
    rw [List.getElem?_eq_getElem hi2] at h1 ⊢
    unfold World.cell? at h1
    rw [hblk, hb] at h1
    simp only at h1
    split at h1
    · cases h1
    · rename_i hs
      rw [hoff] at h1
      exact ⟨by simpa using hs, h1, hi2⟩
  have hs : b.spot = none := by
    have := (cell 0 hk).1
    simpa [Addr.add] using this
  have hle : b.off + k ≤ C.size := by
    have h1 := (cell (k - 1) (by omega)).2.1
    rw [List.getElem?_eq_getElem (cell (k - 1) (by omega)).2.2] at h1
    have := (Array.getElem?_eq_some_iff.1 h1).1
    omega
  refine ⟨hs, hle, ?_⟩
  apply List.ext_getElem?
  intro i
  by_cases hi : i < k
  · rw [← (cell i hi).2.1, List.getElem?_take, if_pos hi, List.getElem?_drop, Array.getElem?_toList]
  · rw [List.getElem?_eq_none (by omega), List.getElem?_eq_none (by simp; omega)]

theorem come_val {ι : Map} {h : CH} {x : Value} {t : TypeId} (hx : one x = true) (hr : HR ι h w) (hn : NoOwn h) (ht : DT P (.val x) t) (hw : P.cellsOf t = 1) :
    ∃ ι' h' cs' d, Got w ι h ι' h' ∧ VL ι' cs' [x] ∧ Rd h' (· < h'.size) d cs' ∧ DT P d t ∧ wid d = P.cellsOf t := by
  refine ⟨ι, h, [x], .val x, Got.refl hr hn, .cons (.base x ?_) (.nil ι), ?_, ht, by simp [wid, hw]⟩
  · simp only [one, Bool.and_eq_true] at hx; exact hx.1
  · simp only [Rd]; exact ⟨trivial, hx⟩

theorem lay_flat {cs : List Value} : ∀ (fs : List Field) (a : Nat), layB P L fs a cs.length = true → (fs.map fun f => (cs.drop f.offset).take (P.cellsOf f.type)).flatten = cs.drop a
  | [], a, g => by
    simp only [layB, beq_iff_eq] at g
    subst g; simp
  | f :: r, a, g => by
    simp only [layB, Bool.and_eq_true, beq_iff_eq] at g
    obtain ⟨⟨rfl, _⟩, g⟩ := g
    rw [List.map_cons, List.flatten_cons, lay_flat r _ g, ← List.drop_drop, List.take_append_drop]
theorem lay_mem : ∀ (fs : List Field) (a n : Nat), layB P L fs a n = true → ∀ f ∈ fs, L.contains f.type = true
  | f :: r, a, n, g, x, hx => by
    simp only [layB, Bool.and_eq_true, beq_iff_eq] at g
    rcases List.mem_cons.1 hx with rfl | hx
    · exact g.1.2
    · exact lay_mem r _ _ g.2 x hx
theorem lay_sum : ∀ (fs : List Field) (a n : Nat), layB P L fs a n = true → a + (fs.map fun f => P.cellsOf f.type).sum = n
  | [], a, n, g => by simpa [layB] using g
  | f :: r, a, n, g => by
    simp only [layB, Bool.and_eq_true, beq_iff_eq] at g
    have := lay_sum r _ _ g.2
    simp only [List.map_cons, List.sum_cons]
    omega
theorem wids_sum : ∀ ds : List D, wids ds = (ds.map wid).sum
  | [] => rfl
  | d :: ds => by simp [wids, wids_sum ds]

theorem DTs_same {e : TypeId} : ∀ {ds : List D} {n : Nat}, DTs P ds (List.replicate n e) → ds.length = n ∧ DTa P ds e
  | [], 0, _ => ⟨rfl, by simp [DTa]⟩
  | [], n + 1, g => by simp [DTs, List.replicate_succ] at g
  | d :: ds, 0, g => by simp [DTs] at g
  | d :: ds, n + 1, g => by
    simp only [List.replicate_succ, DTs] at g
    obtain ⟨h1, h2⟩ := DTs_same g.2
    exact ⟨by simp [h1], by simp only [DTa]; exact ⟨g.1, h2⟩⟩

theorem flat_rows {C : List Value} {o k : Nat} : ∀ (n : Nat), o + n * k ≤ C.length → ((List.range n).map fun i => (C.drop (o + i * k)).take k).flatten = (C.drop o).take (n * k)
  | 0, _ => by simp
  | n + 1, h => by
    rw [List.range_succ, List.map_append, List.flatten_append, flat_rows n (by rw [Nat.succ_mul] at h; omega)]
    simp only [List.map_cons, List.map_nil, List.flatten_cons, List.flatten_nil, List.append_nil]
    rw [Nat.succ_mul, List.take_add, List.drop_drop]

theorem Rds.takes {h : CH} {S : Nat → Prop} {k : Nat} : ∀ {ds : List D} {cs : List Value} (n : Nat), Rds h S ds cs → (∀ d ∈ ds, wid d = k) → Rds h S (ds.take n) (cs.take (n * k))
  | _, _, 0, _, _ => by simp [Rds]
  | [], cs, n + 1, g, _ => by simp only [Rds] at g; subst g; simp [Rds]
  | d :: ds, cs, n + 1, g, hw => by
    simp only [Rds] at g
    obtain ⟨c1, c2, rfl, g1, g2⟩ := g
    have hl : c1.length = k := g1.len.trans (hw d List.mem_cons_self)
    simp only [List.take_succ_cons, Rds]
    refine ⟨c1, c2.take (n * k), ?_, g1, g2.takes n (fun d hd => hw d (List.mem_cons_of_mem _ hd))⟩
    have : (n + 1) * k = c1.length + n * k := by rw [Nat.succ_mul, hl]; omega
    rw [this, List.take_length_add_append]
theorem DTa_take {e : TypeId} : ∀ {ds : List D} (n : Nat), DTa P ds e → DTa P (ds.take n) e
  | _, 0, _ => by simp [DTa]
  | [], n + 1, _ => by simp [DTa]
  | d :: ds, n + 1, g => by
    simp only [DTa] at g
    simp only [List.take_succ_cons, DTa]
    exact ⟨g.1, DTa_take n g.2⟩

theorem come_slice {fuel : Nat} (F : Come enc P w L fuel) {e0 t : TypeId} {a : Addr} {len cap : Nat} {ι : Map} {h : CH} (hu : P.underlying t = some (.slice e0)) (heL : L.contains e0 = true) (hk : 0 < P.cellsOf e0) (ht1 : P.cellsOf t = 1) (hle : len ≤ cap) (hmx : cap ≤ maxLen)
    (rows : ∀ i, i < cap → ∃ c y, w.cells? 0 (a.add (i * P.cellsOf e0)) (P.cellsOf e0) = some c ∧ DataW.trod enc P w 0 (fun _ => true) true fuel e0 c = some y) (hr : HR ι h w) (hn : NoOwn h) (hsp : Spot w [.slice (some a) len cap]) :
    ∃ ι' h' cs' d, Got w ι h ι' h' ∧ VL ι' cs' [.slice (some a) len cap] ∧ Rd h' (· < h'.size) d cs' ∧ DT P d t ∧ wid d = P.cellsOf t := by
  obtain ⟨b, C, et, fz, hb, hoff⟩ : ∃ (b : Nat) (C : Array Value) (et : TypeId) (fz : Nat × Nat), w.heap[b]? = some (Obj.cells C et fz) ∧ (0 < cap → b = a.block ∧ a.spot = none ∧ a.off + cap * P.cellsOf e0 ≤ C.size ∧ ∀ i, i < cap → w.cells? 0 (a.add (i * P.cellsOf e0)) (P.cellsOf e0) = some ((C.toList.drop (a.off + i * P.cellsOf e0)).take (P.cellsOf e0))) := by
    by_cases hc : 0 < cap
    · obtain ⟨c, _, hcs, _⟩ := rows 0 hc
      obtain ⟨_, hl, hcell⟩ := World.cells?_some hcs
      have h0 := hcell 0 hk
      rw [List.getElem?_eq_getElem (by omega)] at h0
      have ha : ∀ (b : Addr) x, (b.add x).block = b.block := fun b x => by unfold Addr.add; split <;> rfl
      have ha0 : ∀ x, (a.add x).block = a.block := ha a
      unfold World.cell? at h0
      rw [ha, ha] at h0
      split at h0
      · rename_i C et fz hb
        have hsp0 : a.spot = none := by
          have := (cells_row (b := a.add (0 * P.cellsOf e0)) (by rw [ha0]; exact hb) hcs hk).1
          rw [Nat.zero_mul] at this
          unfold Addr.add at this
          rwa [if_pos rfl] at this
        have key : ∀ i, i < cap → a.spot = none ∧ a.off + i * P.cellsOf e0 + P.cellsOf e0 ≤ C.size ∧ w.cells? 0 (a.add (i * P.cellsOf e0)) (P.cellsOf e0) = some ((C.toList.drop (a.off + i * P.cellsOf e0)).take (P.cellsOf e0)) := by
          intro i hi
          obtain ⟨c, _, hcs, _⟩ := rows i hi
          obtain ⟨k1, k2, k3⟩ := cells_row (b := a.add (i * P.cellsOf e0)) (by rw [ha0]; exact hb) hcs hk
          have ho : (a.add (i * P.cellsOf e0)).off = a.off + i * P.cellsOf e0 := by
            unfold Addr.add
            split
            · rename_i e; rw [e]; rfl
            · rfl
          rw [ho] at k2 k3
          exact ⟨hsp0, k2, by rw [hcs, k3]⟩
        refine ⟨a.block, C, et, fz, hb, fun _ => ⟨rfl, (key 0 hc).1, ?_, fun i hi => (key i hi).2.2⟩⟩
        have := (key (cap - 1) (by omega)).2.1
        have e : cap * P.cellsOf e0 = (cap - 1) * P.cellsOf e0 + P.cellsOf e0 := by
          rw [← Nat.succ_mul]; congr 1; omega
        omega
      · cases h0
    · obtain ⟨b, C, et, fz, hb⟩ := hsp a len cap (by simp)
      exact ⟨b, C, et, fz, hb, fun h => absurd h hc⟩
  have hspot : ∀ cs, Spot w cs := fun cs _ _ _ _ => ⟨b, C, et, fz, hb⟩
  obtain ⟨ι1, h1, cs1, ds, g1, g2, g3, g4, g5⟩ := comeL F ((List.range cap).map fun i => (e0, (C.toList.drop (a.off + i * P.cellsOf e0)).take (P.cellsOf e0))) ι h (fun x hx => by
    obtain ⟨i, hi, rfl⟩ := List.mem_map.1 hx
    rw [List.mem_range] at hi
    obtain ⟨c, y, hcs, hy⟩ := rows i hi
    refine ⟨heL, ⟨y, ?_⟩, hspot _⟩
    have := (hoff (by omega)).2.2.2 i hi
    rw [hcs] at this
    cases this
    exact hy) hr hn
  simp only [List.map_map, Function.comp_def, List.map_const', List.length_range] at g4 g5
  obtain ⟨hdl, hda⟩ := DTs_same g4
  have hwid : ∀ d ∈ ds, wid d = P.cellsOf e0 := by
    intro d hd
    have : wid d ∈ ds.map wid := List.mem_map_of_mem hd
    rw [g5] at this
    exact List.eq_of_mem_replicate this
  have hlen1 : cs1.length = cap * P.cellsOf e0 := by
    rw [g3.len, wids_sum, g5]; simp
  obtain ⟨dl, hdl1, hdl2, hdl3⟩ : ∃ dl, (0 < cap → dl = a.off ∧ b = a.block) ∧ dl + cap * P.cellsOf e0 ≤ C.size ∧ VL ι1 cs1 ((C.toList.drop dl).take (cap * P.cellsOf e0)) := by
    by_cases hc : 0 < cap
    · obtain ⟨q1, q2, q3, q4⟩ := hoff hc
      refine ⟨a.off, fun _ => ⟨rfl, q1⟩, q3, ?_⟩
      rw [← flat_rows cap (by simpa using q3)]
      simpa only [List.map_map, Function.comp_def] using g2
    · have : cap = 0 := by omega
      subst this
      refine ⟨0, fun h => absurd h hc, by simp, ?_⟩
      have : cs1 = [] := List.length_eq_zero_iff.1 (by simpa using hlen1)
      subst this
      simpa using VL.nil ι1
  have hno : (CO.cells cs1 (P.cellsOf e0) true false).own = false := rfl
  have hnone : ι1 h1.size = Option.none := g1.rel.none
  have hrel := HR.look g1.rel g1.no hno (i := ⟨b, dl, P.cellsOf e0, cs1.length, true, C.size⟩) (by
    refine ⟨rfl, rfl, rfl, by simp only [hlen1]; exact hdl2, ?_, C, et, fz, hb, rfl, ?_, by simp⟩
    · have := g3.ones
      simpa [List.all_eq_true] using this
    · intro j v hj
      obtain ⟨u, hu, hv⟩ := hdl3.get hj
      rw [List.getElem?_take] at hu
      split at hu
      · rw [List.getElem?_drop, Array.getElem?_toList] at hu
        exact ⟨u, hu, hv.mono (Map.le_put hnone)⟩
      · cases hu) ((Array.getElem?_eq_some_iff.1 hb).1)
  refine ⟨_, _, [.slice (some ⟨h1.size, 0, none⟩) len cap], .arr (P.cellsOf e0) (ds.take len), ⟨Map.le_trans g1.le (Map.le_put hnone), g1.ext.trans (Ext.push _ _), hrel, ?_⟩, ?_, ?_, ?_, by simp [wid, ht1]⟩
  · intro q
    by_cases hq : q = h1.size
    · subst hq; rw [push_new]; rfl
    · simp only [CH.push, if_neg hq]; exact g1.no q
  · refine .cons (.slice _ _ _ _ _ _ (Map.put_self _ _ _) rfl hle ?_ (Nat.le_refl _) ?_ (fun _ => rfl)) (.nil _)
    · simp only [Nat.zero_add, hlen1]; exact Nat.le_refl _
    · by_cases hc : 0 < cap
      · right
        obtain ⟨q1, q2, q3, q4⟩ := hoff hc
        obtain ⟨r1, r2⟩ := hdl1 hc
        refine ⟨?_, by simpa using hdl2⟩
        obtain ⟨ab, ao, asp⟩ := a
        simp only at q1 q2 r1 r2
        simp only [q2, Nat.add_zero, r1, r2]
      · left; omega
  · simp only [Rd]
    refine ⟨fun d hd => hwid d (List.mem_of_mem_take hd), .inr ⟨h1.size, 0, cs1, true, false, cap, ?_, Nat.lt_succ_self _, push_new, ?_, ?_⟩⟩
    · simp [hdl]; omega
    · simp only [List.length_take, hdl, Nat.zero_add, hlen1]
      exact Nat.mul_le_mul_right _ (Nat.min_le_right _ _)
    · rw [List.drop_zero]
      have := Rds.takes (k := P.cellsOf e0) len g3 hwid
      have e : (ds.take len).length = len := by simp [hdl]; omega
      rw [e]
      exact (this.keep fun m hm => push_old hm).wide fun m hm => Nat.lt_succ_of_lt hm
  · simp only [DT]
    exact ⟨e0, hu, rfl, by simp; omega, DTa_take len hda⟩

theorem come (hL : closedT P L = true) : ∀ fuel, Come enc P w L fuel
  | 0 => by intro t cs y ι h _ e; simp [DataW.trod] at e
  | fuel + 1 => by
    intro t cs y ι h htL e hr hn hsp
    have ih := come hL fuel
    have ht := List.all_eq_true.1 hL t (by simpa using htL)
    unfold DataW.trod at e
    split at e
    · rename_i b hu
      simp only [hu] at ht
      exact come_val rfl hr hn (by simp only [DT, hu]) (by simpa using ht)
    · rename_i k k' n hu
      simp only [hu] at ht
      split at e
      · rename_i hk
        exact come_val rfl hr hn (by simp only [DT, hu]; exact hk) (by simpa using ht)
      · cases e
    · rename_i hu; simp [hu] at ht
    · rename_i s hu
      simp only [hu] at ht
      split at e
      · rename_i hk
        exact come_val rfl hr hn (by simp only [DT, hu]; exact hk) (by simpa using ht)
      · cases e
    · rename_i hu; simp [hu] at ht
    · rename_i hu; simp [hu] at ht
    · rename_i e0 hu
      simp only [hu, Bool.and_eq_true, beq_iff_eq, decide_eq_true_eq] at ht
      refine ⟨ι, h, [.slice none 0 0], .arr (P.cellsOf e0) [], Got.refl hr hn, .cons (.base _ rfl) (.nil ι), ?_, ?_, by simp [wid, ht.2]⟩
      · simp [Rd]
      · simp only [DT]
        exact ⟨e0, hu, rfl, by simp, trivial⟩
    · rename_i e0 a len cap hu
      simp only [hu, Bool.and_eq_true, beq_iff_eq, decide_eq_true_eq] at ht
      split at e
      · rename_i hb
        obtain ⟨_, hle, hmx⟩ := hb
        simp only [if_true, Option.bind_eq_some_iff, Option.map_eq_some_iff] at e
        obtain ⟨elems, he1, rest, he2, _⟩ := e
        refine come_slice ih hu ht.1.1 ht.1.2 ht.2 hle hmx (fun i hi => ?_) hr hn hsp
        by_cases hil : i < len
        · have := mapM_some_get he1 i i (by simp [hil])
          have hl := mapM_some_length he1
          rw [List.getElem?_eq_getElem (by rw [hl]; simpa using hil)] at this
          obtain ⟨c, hc1, hc2⟩ := Option.bind_eq_some_iff.1 this
          exact ⟨c, _, hc1, hc2⟩
        · have := mapM_some_get he2 (i - len) (i - len) (by rw [List.getElem?_range (by omega)])
          have hl := mapM_some_length he2
          have h4 : i - len < rest.length := by rw [hl, List.length_range]; omega
          rw [List.getElem?_eq_getElem h4] at this
          have e3 : len + (i - len) = i := by omega
          rw [e3] at this
          obtain ⟨c, hc1, hc2⟩ := Option.bind_eq_some_iff.1 this
          exact ⟨c, _, hc1, hc2⟩
      · cases e
    · rename_i cs _ _ fs hu
      simp only [hu] at ht
      split at e
      · rename_i hlen
        simp only [Option.map_eq_some_iff] at e
        obtain ⟨xs, hm, _⟩ := e
        rw [← hlen] at ht
        obtain ⟨ι', h', cs', ds, g1, g2, g3, g4, g5⟩ := comeL ih (fs.toList.map fun f => (f.type, (cs.drop f.offset).take (P.cellsOf f.type))) ι h (fun x hx => by
          obtain ⟨f, hf, rfl⟩ := List.mem_map.1 hx
          refine ⟨lay_mem _ _ _ ht f hf, ?_, fun a len cap hin => hsp a len cap (List.mem_of_mem_drop (List.mem_of_mem_take hin))⟩
          obtain ⟨i, hi⟩ := List.getElem?_of_mem hf
          have h1 := mapM_some_get hm i f hi
          have h2 := mapM_some_length hm
          have h3 : i < xs.length := by rw [h2]; exact (List.getElem?_eq_some_iff.1 hi).1
          exact ⟨xs[i], h1.trans (List.getElem?_eq_getElem h3)⟩) hr hn
        refine ⟨ι', h', cs', .str ds, g1, ?_, ?_, ?_, ?_⟩
        · have e1 := lay_flat (cs := cs) fs.toList 0 ht
          rw [List.drop_zero] at e1
          simp only [List.map_map, Function.comp_def] at g2
          rw [e1] at g2
          exact g2
        · simp only [Rd]; exact g3
        · simp only [DT]
          refine ⟨fs, hu, ?_⟩
          simpa only [List.map_map, Function.comp_def] using g4
        · simp only [wid, wids_sum, g5, List.map_map, Function.comp_def]
          have := lay_sum _ _ _ ht
          omega
      · cases e
    all_goals first
      | (cases e; done)
      | (rename_i hu; simp [hu] at ht; done)
end

end Go.Proofs.Ytdfmdclfnhgjiaa.Can
