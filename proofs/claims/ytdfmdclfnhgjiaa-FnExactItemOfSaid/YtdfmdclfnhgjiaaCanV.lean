/- Rules for texts, cuts, appends and stores, in terms of what is owned.
   Conditions: those that each rule names. -/
import Derived.Test.YtdfmdclfnhgjiaaCanS
import Derived.Below
set_option linter.unusedVariables false
set_option linter.unusedSimpArgs false
namespace Go.Proofs.Ytdfmdclfnhgjiaa.Can
open Go

theorem guardW_u {b : Bool} {A B : Prop} {u : Tok (A, B)} : guardW undef b A B u = B := by
  cases b <;> simp [guardW, undef, isB]

theorem drawW_guard0 {P : Program} {ρ : Nat → Value} {h : CH} {K : (Nat → Value) → CH → Prop} {d : Option Nat} {sh : Sh} {xs : List Operand} {t : Nat} {b : Bool} {r : List (MI × List MI)} : drawW P ((⟨d, sh, xs, some (t, b)⟩, []) :: r) ρ h K = guardW (ρ t) b (stepT P sh (xs.map (ev ρ)) h (fun v h' => drawW P r (upd ρ d v) h' K) .mk) (drawW P r (upd ρ d undef) h K) .mk := by
  simp [drawW, reW, stepT, guardW]
theorem drawW_guard1 {P : Program} {ρ : Nat → Value} {h : CH} {K : (Nat → Value) → CH → Prop} {d : Option Nat} {sh : Sh} {xs : List Operand} {t : Nat} {b : Bool} {m : MI} {e : List MI} {r : List (MI × List MI)} : drawW P ((⟨d, sh, xs, some (t, b)⟩, m :: e) :: r) ρ h K = guardW (ρ t) b (stepT P sh (xs.map (ev ρ)) h (fun v h' => reW (m :: e) (upd ρ d v) h' ∧ drawW P r (upd ρ d v) h' K) .mk) (reW (m :: e) (upd ρ d undef) h ∧ drawW P r (upd ρ d undef) h K) .mk := rfl

/-- A call that only tells a value of a text. -/
theorem callT_pure {P : Program} {f : FuncId} {vs : List Value} {h : CH} {L : Value → CH → Prop} {u : Tok L} {v : Value} (g : callW P f vs h fun r h' => h' = h ∧ r = v) (k : L v h) : callT P f vs h L u :=
  callT_of g fun r h' _ e => by rw [e.1, e.2]; exact k

/-- What is known of the machine's call: it leaves what was there. -/
theorem sim_below {P : Program} {f : FuncId} {args : List Value} {v : Value} {h : CH} (hb : bases args = true) (hv : flat v = true) (g : ∀ w, Calls P f args.toArray w fun e w' => e = .returned v ∧ RowKit.Below w.heap.size w w') : callW P f args h fun r h' => h' = h ∧ r = v := by
  refine ⟨v, h, ⟨Nat.le_refl _, fun ι w args' hR hA => ?_⟩, rfl, rfl⟩
  rw [hA.of_bases hb]
  refine (g w).mono ?_
  rintro e w' ⟨rfl, b⟩
  refine ⟨v, rfl, ι, VR.flat hv, ⟨fun o i e => (hR.obj o i e).mono ι.le_refl (fun hl => b.block _ (hR.lt o i e)), hR.sep, hR.dom, fun o i e => Nat.lt_of_lt_of_le (hR.lt o i e) b.size⟩, ?_⟩
  exact ⟨ι.le_refl, fun o e n => absurd e n, Nat.le_refl _, b.size, fun q hq _ => b.block q hq, fun _ _ h => h, fun o i e n => (by rw [e] at n; cases n), b.os, b.tape, b.output⟩
theorem sim_quiet {P : Program} {f : FuncId} {args : List Value} {v : Value} {h : CH} (hb : bases args = true) (hv : flat v = true) (g : ∀ w, Calls P f args.toArray w fun e w' => e = .returned v ∧ w' = w) : callW P f args h fun r h' => h' = h ∧ r = v :=
  sim_below hb hv fun w => (g w).mono fun e w' q => ⟨q.1, by rw [q.2]; exact RowKit.Below.refl _ _⟩

/-- A byte of a text. -/
def byt (s : ByteArray) (i : Nat) : Nat := (s.data.toList[i]?.getD 0).toNat
theorem byt_lt (s : ByteArray) (i : Nat) : byt s i < 256 := UInt8.toNat_lt _
/-- Bytes as trees. -/
def uv (b : UInt8) : Value := .int .u8 b.toNat
def uvs (bs : List UInt8) : List D := (bs.map uv).map .val
def iv (n : Int) : Value := .int .i64 n
def ivs (xs : List Int) : List D := (xs.map iv).map .val
theorem uvs_len (bs : List UInt8) : (uvs bs).length = bs.length := by simp [uvs]
theorem ivs_len (xs : List Int) : (ivs xs).length = xs.length := by simp [ivs]
theorem uvs_wid {bs : List UInt8} : ∀ d ∈ uvs bs, wid d = 1 := by
  intro d hd; simp [uvs] at hd; obtain ⟨b, _, rfl⟩ := hd; rfl
theorem ivs_wid {xs : List Int} : ∀ d ∈ ivs xs, wid d = 1 := by
  intro d hd; simp [ivs] at hd; obtain ⟨b, _, rfl⟩ := hd; rfl
theorem uvs_append (a b : List UInt8) : uvs (a ++ b) = uvs a ++ uvs b := by simp [uvs]
theorem ivs_append (a b : List Int) : ivs (a ++ b) = ivs a ++ ivs b := by simp [ivs]

section
variable {P : Program} {h h0 : CH} {L : Value → CH → Prop}

theorem s_idxS {s : ByteArray} {k : IntKind} {i : Int} (h0 : 0 ≤ i) (h1 : i < s.size) {u : Tok L} : stepT P .idxS [.string s, .int k i] h L u = L (.int .u8 (byt s i.toNat)) h := by
  have hi : i.toNat < s.size := by omega
  have e : s[i.toNat]? = some (s.data.toList[i.toNat]'(by simpa using hi)) := by
    rw [getElem?_pos s i.toNat hi]
    simp [ByteArray.getElem_eq_getElem_data]
  simp only [stepT, stepW, pureC, h0, if_true, e, Option.map_some, oW, byt]
  rw [List.getElem?_eq_getElem (by simpa using hi)]
  rfl
theorem s_slcS2 {s : ByteArray} {k k' : IntKind} {i j : Int} (h0 : 0 ≤ i) (h1 : i ≤ j) (h2 : j ≤ s.size) {u : Tok L} : stepT P (.slcS true true) [.string s, .int k i, .int k' j] h L u = L (.string (s.extract i.toNat j.toNat)) h := by
  have a : 0 ≤ j := by omega
  have b : i ≤ (j.toNat : Int) := by omega
  have e : bnds s.size s.size (some i) (some j) none = some (i.toNat, j.toNat, s.size) := by
    simp only [bnds, bnd, Option.isSome_none, Bool.false_eq_true, false_and, if_false, a, h2, and_self, if_true, h0, b]
  simp only [stepT, stepW, pureC, optI, e, Option.map_some, oW]
theorem s_slcS1 {s : ByteArray} {k : IntKind} {i : Int} (h0 : 0 ≤ i) (h1 : i ≤ s.size) {u : Tok L} : stepT P (.slcS true false) [.string s, .int k i] h L u = L (.string (s.extract i.toNat s.size)) h := by
  simp [stepT, stepW, pureC, optI, bnds, bnd, oW, h0, h1]
theorem s_slcS0 {s : ByteArray} {k : IntKind} {j : Int} (h0 : 0 ≤ j) (h1 : j ≤ s.size) {u : Tok L} : stepT P (.slcS false true) [.string s, .int k j] h L u = L (.string (s.extract 0 j.toNat)) h := by
  simp [stepT, stepW, pureC, optI, bnds, bnd, oW, h0, h1]

/-! ### Numbers -/
theorem s_shl {k k' : IntKind} {a b : Int} (hb : 0 ≤ b) {u : Tok L} : stepT P (.bin .shl) [.int k a, .int k' b] h L u = L (.int k (k.wrap (a * 2 ^ (min b.toNat k.bits)))) h := by
  have : ¬ b < 0 := by omega
  simp [stepT, stepW, pureC, cbin, cint, oW, this]
theorem s_shr {k k' : IntKind} {a b : Int} (hb : 0 ≤ b) {u : Tok L} : stepT P (.bin .shr) [.int k a, .int k' b] h L u = L (.int k (a.fdiv (2 ^ (min b.toNat k.bits)))) h := by
  have : ¬ b < 0 := by omega
  simp [stepT, stepW, pureC, cbin, cint, oW, this]
theorem s_and {k : IntKind} {a b : Int} {u : Tok L} : stepT P (.bin .and) [.int k a, .int k b] h L u = L (.int k (k.wrap (BitVec.ofInt k.bits a &&& BitVec.ofInt k.bits b).toNat)) h := by simp [stepT, stepW, pureC, cbin, cint, oW]
theorem s_or {k : IntKind} {a b : Int} {u : Tok L} : stepT P (.bin .or) [.int k a, .int k b] h L u = L (.int k (k.wrap (BitVec.ofInt k.bits a ||| BitVec.ofInt k.bits b).toNat)) h := by simp [stepT, stepW, pureC, cbin, cint, oW]
theorem s_xor {k : IntKind} {a b : Int} {u : Tok L} : stepT P (.bin .xor) [.int k a, .int k b] h L u = L (.int k (k.wrap (BitVec.ofInt k.bits a ^^^ BitVec.ofInt k.bits b).toNat)) h := by simp [stepT, stepW, pureC, cbin, cint, oW]
theorem s_addK {k : IntKind} {a b : Int} {u : Tok L} : stepT P (.bin .add) [.int k a, .int k b] h L u = L (.int k (k.wrap (a + b))) h := by simp [stepT, stepW, pureC, cbin, cint, oW]
theorem s_subK {k : IntKind} {a b : Int} {u : Tok L} : stepT P (.bin .sub) [.int k a, .int k b] h L u = L (.int k (k.wrap (a - b))) h := by simp [stepT, stepW, pureC, cbin, cint, oW]
theorem s_mulK {k : IntKind} {a b : Int} {u : Tok L} : stepT P (.bin .mul) [.int k a, .int k b] h L u = L (.int k (k.wrap (a * b))) h := by simp [stepT, stepW, pureC, cbin, cint, oW]
theorem s_min {k k' : IntKind} {a b : Int} {u : Tok L} : stepT P .mn [.int k a, .int k' b] h L u = L (.int k (if b < a then b else a)) h := rfl
theorem s_max {k k' : IntKind} {a b : Int} {u : Tok L} : stepT P .mx [.int k a, .int k' b] h L u = L (.int k (if b > a then b else a)) h := rfl
theorem wrap8 {x : Int} (h1 : 0 ≤ x) (h2 : x ≤ 255) : IntKind.wrap .u8 x = x := by
  simp [IntKind.wrap, IntKind.bits, IntKind.signed]
  omega
theorem wrap32 {x : Int} (h1 : 0 ≤ x) (h2 : x ≤ 4294967295) : IntKind.wrap .u32 x = x := by
  simp [IntKind.wrap, IntKind.bits, IntKind.signed]
  omega

/-! ### Slices that may be read -/

/-- A slice's length is told by its tree. -/
theorem Rd.form {S : Nat → Prop} {k : Nat} {ds : List D} {v : Value} (g : Rd h S (.arr k ds) [v]) : ∃ a cap, v = .slice a ds.length cap := by
  simp only [Rd] at g
  obtain ⟨hw, ⟨rfl, e⟩ | ⟨n, o, c, opn, rw, cap, e1, e2, e3, e4, e5⟩⟩ := g
  · simp only [List.cons.injEq, and_true] at e; exact ⟨_, _, e⟩
  · simp only [List.cons.injEq, and_true] at e1; exact ⟨_, _, e1⟩

/-- An element of a slice of plain values. -/
theorem Rd.elt {S : Nat → Prop} {xs : List Value} {a : Option Addr} {len cap : Nat} (g : Rd h S (.arr 1 (xs.map .val)) [.slice a len cap]) {i : Nat} (hi : i < xs.length) :
    len = xs.length ∧ ∃ n o, a = some ⟨n, o, none⟩ ∧ S n ∧ ldC (o + i) (h.at_ n) = some xs[i] := by
  simp only [Rd] at g
  obtain ⟨hw, ⟨e0, e⟩ | ⟨n, o, c, opn, rw, cap, e1, e2, e3, e4, e5⟩⟩ := g
  · simp at e0; subst e0; simp at hi
  · simp only [List.cons.injEq, Value.slice.injEq, and_true, List.length_map] at e1
    obtain ⟨rfl, rfl, rfl⟩ := e1
    refine ⟨rfl, n, o, rfl, e2, ?_⟩
    rw [e3]
    have := e5.vals
    simp only [List.length_map, Nat.mul_one] at this
    have h2 : ((c.drop o).take xs.length)[i]? = some xs[i] := by rw [this, List.getElem?_eq_getElem hi]
    simpa [ldC, List.getElem?_take, hi] using h2
/-- The place of an element of a slice of plain values; what lies there. -/
theorem r_iaddr {S : Nat → Prop} {xs : List Value} {a : Option Addr} {len cap : Nat} {kd : IntKind} {i : Int} {u : Tok L} (g : Rd h S (.arr 1 (xs.map .val)) [.slice a len cap]) (hi0 : 0 ≤ i) (hi : i < xs.length)
    (hL : ∀ n o, S n → ldC o (h.at_ n) = some (xs[i.toNat]'(by omega)) → L (.pointer (some ⟨n, o, none⟩)) h) : stepT P (.iaddr 1) [.slice a len cap, .int kd i] h L u := by
  obtain ⟨rfl, n, o, rfl, hS, hv⟩ := g.elt (i := i.toNat) (by omega)
  rw [s_iaddr hi0 (by omega), Nat.mul_one]
  exact hL n _ hS hv
/-- The place of an element of some cells. -/
theorem r_iaddrK {S : Nat → Prop} {k : Nat} {ds : List D} {a : Option Addr} {len cap : Nat} {kd : IntKind} {i : Int} {u : Tok L} (g : Rd h S (.arr k ds) [.slice a len cap]) (hi0 : 0 ≤ i) (hi : i < ds.length)
    (hL : ∀ n o cs, S n → Rd h S (ds[i.toNat]'(by omega)) cs → (∀ j, j < k → ldC (o + j) (h.at_ n) = cs[j]?) → (0 < k → ldA o k (h.at_ n) = some (.agg cs.toArray)) → cs.length = k → L (.pointer (some ⟨n, o, none⟩)) h) : stepT P (.iaddr k) [.slice a len cap, .int kd i] h L u := by
  simp only [Rd] at g
  obtain ⟨hw, ⟨e0, e⟩ | ⟨n, o, c, opn, rw, cap, e1, e2, e3, e4, e5⟩⟩ := g
  · subst e0; simp at hi; omega
  · simp only [List.cons.injEq, Value.slice.injEq, and_true] at e1
    obtain ⟨rfl, rfl, rfl⟩ := e1
    rw [s_iaddr hi0 hi]
    have hj : i.toNat < ds.length := by omega
    have hel := e5.elem hw (List.getElem?_eq_getElem hj)
    have hroom : o + i.toNat * k + k ≤ c.length := by
      have : (i.toNat + 1) * k ≤ ds.length * k := Nat.mul_le_mul_right _ hj
      rw [Nat.succ_mul] at this
      omega
    have hlen : ((c.drop (o + i.toNat * k)).take k).length = k := by simp; omega
    refine hL n _ _ e2 hel (fun j hj => ?_) (fun hk => ?_) hlen
    · rw [e3]; simp [ldC, List.getElem?_take, hj]
    · rw [e3]; simp [ldA, hroom]

theorem asBytes_uv : ∀ bs : List UInt8, asBytes (bs.map uv) = some bs
  | [] => rfl
  | b :: bs => by simp [asBytes, uv, asBytes_uv bs]
theorem s_b2s {S : Nat → Prop} {bs : List UInt8} {v : Value} {u : Tok L} (g : Rd h S (.arr 1 (uvs bs)) [v]) : stepT P .b2s [v] h L u = L (.string ⟨bs.toArray⟩) h := by
  simp only [Rd] at g
  obtain ⟨hw, ⟨e0, e⟩ | ⟨n, o, c, opn, rw, cap, e1, e2, e3, e4, e5⟩⟩ := g
  · simp only [List.cons.injEq, and_true] at e
    simp [uvs] at e0
    subst e; subst e0
    rfl
  · simp only [List.cons.injEq, and_true] at e1
    subst e1
    have hv := e5.vals
    rw [uvs_len, Nat.mul_one] at hv e4
    simp only [stepT, stepW, readC, cellsAt, e3, uvs_len, e4, if_true, Option.bind_some, hv, asBytes_uv, Option.map_some, oW]

theorem s_s2b {s : ByteArray} {u : Tok L} : stepT P .s2b [.string s] h L u = L (.slice (some ⟨h.size, 0, none⟩) s.size s.size) (h.push (.cells (s.data.toList.map uv) 1 true true)) := rfl

theorem Rds.takes2 {S : Nat → Prop} {k : Nat} : ∀ {ds : List D} {cs : List Value} (n : Nat), Rds h S ds cs → (∀ d ∈ ds, wid d = k) → Rds h S (ds.take n) (cs.take (n * k))
  | _, _, 0, _, _ => by simp [Rds]
  | [], cs, n + 1, g, _ => by simp only [Rds] at g; subst g; simp [Rds]
  | d :: ds, cs, n + 1, g, hw => by
    simp only [Rds] at g
    obtain ⟨c1, c2, rfl, g1, g2⟩ := g
    have hl : c1.length = k := g1.len.trans (hw d List.mem_cons_self)
    simp only [List.take_succ_cons, Rds]
    refine ⟨c1, c2.take (n * k), ?_, g1, Rds.takes2 n g2 (fun d hd => hw d (List.mem_cons_of_mem _ hd))⟩
    have : (n + 1) * k = c1.length + n * k := by rw [Nat.succ_mul, hl]; omega
    rw [this, List.take_length_add_append]
theorem Rds.drops {S : Nat → Prop} {k : Nat} : ∀ {ds : List D} {cs : List Value} (n : Nat), Rds h S ds cs → (∀ d ∈ ds, wid d = k) → Rds h S (ds.drop n) (cs.drop (n * k))
  | _, _, 0, g, _ => by simpa using g
  | [], cs, n + 1, g, _ => by simp only [Rds] at g; subst g; simp [Rds]
  | d :: ds, cs, n + 1, g, hw => by
    simp only [Rds] at g
    obtain ⟨c1, c2, rfl, g1, g2⟩ := g
    have hl : c1.length = k := g1.len.trans (hw d List.mem_cons_self)
    have := Rds.drops n g2 (fun d hd => hw d (List.mem_cons_of_mem _ hd))
    have e : (n + 1) * k = c1.length + n * k := by rw [Nat.succ_mul, hl]; omega
    rw [e, List.drop_length_add_append]
    simpa using this

/-- A cut of a slice that may be read. -/
theorem Rd.cut {S : Nat → Prop} {k : Nat} {ds : List D} {a : Option Addr} {len cap : Nat} (g : Rd h S (.arr k ds) [.slice a len cap]) {i j m : Nat} (hij : i ≤ j) (hj : j ≤ ds.length) :
    Rd h S (.arr k ((ds.take j).drop i)) [.slice (a.map fun a => ⟨a.block, a.off + i * k, none⟩) (j - i) (m - i)] ∨ a = none := by
  simp only [Rd] at g
  obtain ⟨hw, ⟨e0, e⟩ | ⟨n, o, c, opn, rw, cap, e1, e2, e3, e4, e5⟩⟩ := g
  · right; simp at e; exact e.1
  · left
    simp only [List.cons.injEq, Value.slice.injEq, and_true] at e1
    obtain ⟨rfl, rfl, rfl⟩ := e1
    have hl : ((ds.take j).drop i).length = j - i := by simp; omega
    simp only [Rd]
    refine ⟨fun d hd => hw d (List.mem_of_mem_take (List.mem_of_mem_drop hd)), .inr ⟨n, o + i * k, c, opn, rw, m - i, by simp [hl], e2, e3, ?_, ?_⟩⟩
    · have : (j - i) * k + i * k ≤ ds.length * k := by rw [← Nat.add_mul]; exact Nat.mul_le_mul_right _ (by omega)
      rw [hl]; omega
    · have h1 := Rds.drops (k := k) i (Rds.takes2 (k := k) j e5 hw) (fun d hd => hw d (List.mem_of_mem_take hd))
      rw [hl]
      have : ((((c.drop o).take (ds.length * k)).take (j * k)).drop (i * k)) = ((c.drop (o + i * k)).take ((j - i) * k)) := by
        rw [List.take_take, Nat.min_eq_left (Nat.mul_le_mul_right _ hj), List.drop_take, List.drop_drop, ← Nat.sub_mul]
      rwa [this] at h1
/-! ### Appends -/

theorem Owns.append {es : List D} {ys : List Value} {G : List Nat} (g2 : Owns h es ys G) : ∀ {ds : List D} {cs : List Value} {F : List Nat}, Owns h ds cs F → (∀ n ∈ F, n ∉ G) → Owns h (ds ++ es) (cs ++ ys) (F ++ G)
  | [], cs, F, g, hd => by
    simp only [Owns] at g
    obtain ⟨rfl, rfl⟩ := g
    simpa using g2
  | x :: ds, cs, F, g, hd => by
    simp only [Owns] at g
    obtain ⟨c1, c2, F1, F2, rfl, rfl, e2, q1, q2⟩ := g
    simp only [List.cons_append, Owns]
    refine ⟨c1, c2 ++ ys, F1, F2 ++ G, by simp, by simp, ?_, q1, Owns.append g2 q2 (fun n hn => hd n (List.mem_append_right _ hn))⟩
    intro n hn hm
    rcases List.mem_append.1 hm with hm | hm
    · exact e2 n hn hm
    · exact hd n (List.mem_append_left _ hn) hm

theorem Owns.len {ds : List D} {cs : List Value} {F : List Nat} (g : Owns h ds cs F) : cs.length = wids ds := g.rd.len
theorem wids_k {k : Nat} : ∀ {ds : List D}, (∀ d ∈ ds, wid d = k) → wids ds = ds.length * k
  | [], _ => by simp [wids]
  | d :: ds, hw => by simp only [wids, hw d List.mem_cons_self, wids_k (fun d hd => hw d (List.mem_cons_of_mem _ hd)), List.length_cons, Nat.succ_mul]; omega

/-- Behind a slice of its own comes what is owned, or has no block. -/
theorem app_own {k b : Nat} {ds es : List D} {v x : Value} {F G : List Nat} {xs : List Value} {u : Tok L} (ho : Own h (.arr k ds) [v] F) (hx : srcC k h x = some (es.length, xs)) (he : Owns h es xs G) (hw : ∀ e ∈ es, wid e = k)
    (hd : ∀ n ∈ F, n ∉ G) (hF : ∀ n ∈ F, n < h.size) (hG : ∀ n ∈ G, n < h.size) (hb : (ds.length + es.length) * b ≤ 140737488351232) (hb2 : ds.length + es.length ≤ 140737488351232)
    (hL : ∀ v' F' h', St h (F ++ G) [.ow (.arr k (ds ++ es)) [v'] F'] h' → L v' h') : stepT P (.app k b) [v, x] h L u := by
  show pW (appC k b v x h) L
  have hxl : xs.length = es.length * k := he.len.trans (wids_k hw)
  have hw1 : ∀ e ∈ ds ++ es, wid e = k := fun e he => by
    simp only [Own] at ho
    rcases List.mem_append.1 he with h1 | h1
    · exact ho.1 e h1
    · exact hw e h1
  -- a state that keeps all
  have mk : ∀ v' F' h', h.size ≤ h'.size → (∀ m, m < h.size → m ∉ F → m ∉ G → h'.at_ m = h.at_ m) → Own h' (.arr k (ds ++ es)) [v'] F' → (∀ n ∈ F', n ∈ F ∨ n ∈ G ∨ (h.size ≤ n ∧ n < h'.size)) → L v' h' := by
    intro v' F' h' s1 s2 s3 s4
    refine hL v' F' h' ⟨s1, fun m hm hz => s2 m hm (fun e => hz (List.mem_append_left _ e)) (fun e => hz (List.mem_append_right _ e)), ⟨s3, trivial⟩, by simpa [feet, It.foot] using s3.nodup, fun n hn => ?_⟩
    simp only [feet, It.foot, List.append_nil] at hn
    rcases s4 n hn with e | e | e
    · exact ⟨.inl (List.mem_append_left _ e), by have := hF n e; omega⟩
    · exact ⟨.inl (List.mem_append_right _ e), by have := hG n e; omega⟩
    · exact ⟨.inr e.1, e.2⟩
  have ho2 := ho
  simp only [Own] at ho
  obtain ⟨hw0, ⟨rfl, e1, rfl⟩ | ⟨n, c, opn, cap, Gi, e1, rfl, e2, e3, e4, e5, e6⟩⟩ := ho
  · simp only [List.cons.injEq, and_true] at e1
    subst e1
    by_cases hm : es.length = 0
    · have hv : appC k b (.slice none 0 0) x h = some (.slice none 0 0, h) := by simp [appC, hx, hm]
      rw [hv]
      have e0 := List.length_eq_zero_iff.1 hm
      subst e0
      exact mk _ [] h (Nat.le_refl _) (fun _ _ _ _ => rfl) (by simpa using ho2) (by simp)
    · have hb' : es.length * b ≤ 140737488351232 ∧ es.length ≤ 140737488351232 := by simpa using And.intro hb hb2
      have hv : appC k b (.slice none 0 0) x h = some (.slice (some ⟨h.size, 0, none⟩) es.length es.length, h.push (.cells xs k true true)) := by
        simp [appC, hx, hm, hb'.1, hb'.2]
      rw [hv]
      refine mk _ (h.size :: G) _ (Nat.le_succ _) (fun m hm _ _ => push_old hm) ?_ ?_
      · simp only [Own, List.nil_append]
        refine ⟨hw, .inr ⟨h.size, xs, true, es.length, G, rfl, rfl, fun hm => by have := hG _ hm; omega, push_new, hxl, by omega, ?_⟩⟩
        rw [← hxl, List.take_length]
        exact he.keep fun n hn => push_old (hG n hn)
      · intro n hn
        rcases List.mem_cons.1 hn with rfl | hn
        · exact .inr (.inr ⟨Nat.le_refl _, Nat.lt_succ_self _⟩)
        · exact .inr (.inl hn)
  · simp only [List.cons.injEq, and_true] at e1
    subst e1
    have hnG : n ∉ G := hd n List.mem_cons_self
    have hGi : ∀ m ∈ Gi, m ∉ G := fun m hm => hd m (List.mem_cons_of_mem _ hm)
    have hGil : ∀ m ∈ Gi, m < h.size := fun m hm => hF m (List.mem_cons_of_mem _ hm)
    have hnl := hF n List.mem_cons_self
    by_cases hc : ds.length + es.length ≤ cap
    · by_cases hm : es.length = 0
      · have hv : appC k b (.slice (some ⟨n, 0, none⟩) ds.length cap) x h = some (.slice (some ⟨n, 0, none⟩) ds.length cap, h) := by
          simp only [appC, hx, e3, if_true, if_pos hc, if_pos hm]
        rw [hv]
        have e0 := List.length_eq_zero_iff.1 hm
        subst e0
        exact mk _ (n :: Gi) h (Nat.le_refl _) (fun _ _ _ _ => rfl) (by simpa using ho2) (fun m hm => .inl hm)
      · have hroom : ds.length * k + xs.length ≤ c.length := by
          rw [hxl, ← Nat.add_mul, e4]; exact Nat.mul_le_mul_right _ hc
        have hst : storeC h ⟨n, 0 + ds.length * k, none⟩ xs = some (h.set n (.cells (setAt c (ds.length * k) xs) k opn true)) := by
          simp [storeC, e3, hroom]
        have hv : appC k b (.slice (some ⟨n, 0, none⟩) ds.length cap) x h = some (.slice (some ⟨n, 0, none⟩) (ds.length + es.length) cap, h.set n (.cells (setAt c (ds.length * k) xs) k opn true)) := by
          simp only [appC, hx, e3, if_true, if_pos hc, if_neg hm, hst, Option.map_some]
        rw [hv]
        refine mk _ (n :: (Gi ++ G)) _ (Nat.le_refl _) (fun m _ h1 _ => set_other (fun e => h1 (by rw [e]; exact List.mem_cons_self))) ?_ ?_
        · simp only [Own]
          refine ⟨hw1, .inr ⟨n, _, opn, cap, Gi ++ G, by simp, rfl, fun hm => ?_, set_same, ?_, ?_, ?_⟩⟩
          · rcases List.mem_append.1 hm with hm | hm
            · exact e2 hm
            · exact hnG hm
          · rw [setAt_len hroom, e4]
          · rw [setAt_len hroom, List.length_append, Nat.add_mul, ← hxl]; exact hroom
          · have ht : (setAt c (ds.length * k) xs).take ((ds ++ es).length * k) = c.take (ds.length * k) ++ xs := by
              have h1 : (c.take (ds.length * k) ++ xs).length = (ds ++ es).length * k := by
                rw [List.length_append, List.length_take, List.length_append, Nat.add_mul, hxl]; omega
              rw [setAt, List.take_append_of_le_length (by omega), ← h1, List.take_length]
            rw [ht]
            refine Owns.append (he.keep fun m hm => set_other (fun (e : m = n) => hnG (e ▸ hm))) (e6.keep fun m hm => set_other (fun (e : m = n) => e2 (e ▸ hm))) hGi
        · intro m hm
          rcases List.mem_cons.1 hm with rfl | hm
          · exact .inl List.mem_cons_self
          · rcases List.mem_append.1 hm with hm | hm
            · exact .inl (List.mem_cons_of_mem _ hm)
            · exact .inr (.inl hm)
    · have et : (c.drop 0).take (ds.length * k) = c.take (ds.length * k) := by rw [List.drop_zero]
      have e0 : (0 : Nat) + cap * k = c.length := by omega
      have hfin : ∀ h1 : CH, h1.size = h.size → (∀ m, m < h.size → m ≠ n → h1.at_ m = h.at_ m) →
          L (.slice (some ⟨h.size, 0, none⟩) (ds.length + es.length) (ds.length + es.length)) (h1.push (.cells (c.take (ds.length * k) ++ xs) k true true)) := by
        intro h1 hs hk
        have keep : ∀ m, m < h.size → m ≠ n → (h1.push (.cells (c.take (ds.length * k) ++ xs) k true true)).at_ m = h.at_ m := fun m h2 h3 => (push_old (by omega)).trans (hk m h2 h3)
        have new : (h1.push (.cells (c.take (ds.length * k) ++ xs) k true true)).at_ h.size = .cells (c.take (ds.length * k) ++ xs) k true true := by rw [← hs]; exact push_new
        have hl : (c.take (ds.length * k) ++ xs).length = (ds.length + es.length) * k := by
          rw [List.length_append, List.length_take, Nat.add_mul, hxl]; omega
        refine mk _ (h.size :: (Gi ++ G)) _ (by rw [push_size]; omega) (fun m h2 h3 _ => keep m h2 (fun e => h3 (by rw [e]; exact List.mem_cons_self))) ?_ ?_
        · simp only [Own]
          refine ⟨hw1, .inr ⟨h.size, _, true, ds.length + es.length, Gi ++ G, by simp, rfl, fun hm => ?_, new, hl, by rw [hl, List.length_append]; exact Nat.le_refl _, ?_⟩⟩
          · rcases List.mem_append.1 hm with hm | hm
            · have := hGil _ hm; omega
            · have := hG _ hm; omega
          · rw [List.length_append, ← hl, List.take_length]
            exact Owns.append (he.keep fun m hm => keep m (hG m hm) (fun e => hnG (e ▸ hm))) (e6.keep fun m hm => keep m (hGil m hm) (fun e => e2 (e ▸ hm))) hGi
        · intro m hm
          rcases List.mem_cons.1 hm with rfl | hm
          · exact .inr (.inr ⟨Nat.le_refl _, by rw [push_size]; omega⟩)
          · rcases List.mem_append.1 hm with hm | hm
            · exact .inl (List.mem_cons_of_mem _ hm)
            · exact .inr (.inl hm)
      cases hop : opn
      · subst hop
        have hv : appC k b (.slice (some ⟨n, 0, none⟩) ds.length cap) x h = some (.slice (some ⟨h.size, 0, none⟩) (ds.length + es.length) (ds.length + es.length), h.push (.cells (c.take (ds.length * k) ++ xs) k true true)) := by
          simp only [appC, hx, e3, if_true, if_neg hc, hb, hb2, and_self, Bool.false_eq_true, false_and, if_false, et]
        rw [hv]
        exact hfin h rfl (fun _ _ _ => rfl)
      · subst hop
        have hv : appC k b (.slice (some ⟨n, 0, none⟩) ds.length cap) x h = some (.slice (some ⟨h.size, 0, none⟩) (ds.length + es.length) (ds.length + es.length), (h.set n (.dead k)).push (.cells (c.take (ds.length * k) ++ xs) k true true)) := by
          simp only [appC, hx, e3, if_true, if_neg hc, hb, hb2, and_self, et, e0]
        rw [hv]
        have := hfin (h.set n (.dead k)) rfl (fun m _ hm => set_other hm)
        exact this

variable {Z : List Nat} {T : List It}

/-- Behind the slice at place i come plain values. -/
theorem St.app (K : St h0 Z T h) {k b : Nat} {ds es : List D} {v x : Value} {F : List Nat} {xs : List Value} {u : Tok L} (i : Nat) (e : T[i]? = some (.ow (.arr k ds) [v] F)) (hx : srcC k h x = some (es.length, xs)) (he : Owns h es xs []) (hw : ∀ e ∈ es, wid e = k)
    (hb : (ds.length + es.length) * b ≤ 140737488351232) (hb2 : ds.length + es.length ≤ 140737488351232)
    (hL : ∀ v' F' h', St h0 Z (T.set i (.ow (.arr k (ds ++ es)) [v'] F')) h' → L v' h') : stepT P (.app k b) [v, x] h L u :=
  app_own (K.ow i e) hx he hw (by simp) (K.lt i e) (by simp) hb hb2 fun v' F' h' J => hL v' F' h' (K.at e (by simpa [It.foot] using J))
/-- Behind the slice at place i comes what is owned at place j (of what is left). -/
theorem St.appOwn (K : St h0 Z T h) {k b : Nat} {ds : List D} {d : D} {v x : Value} {F G : List Nat} {xs : List Value} {u : Tok L} (i j : Nat) (e : T[i]? = some (.ow (.arr k ds) [v] F)) (o : (T.eraseIdx i)[j]? = some (.ow d xs G)) (hx : srcC k h x = some (1, xs)) (hw : wid d = k)
    (hb : (ds.length + 1) * b ≤ 140737488351232) (hb2 : ds.length + 1 ≤ 140737488351232)
    (hL : ∀ v' F' h', St h0 Z (.ow (.arr k (ds ++ [d])) [v'] F' :: (T.eraseIdx i).eraseIdx j) h' → L v' h') : stepT P (.app k b) [v, x] h L u := by
  have K2 := (K.perm (pick_perm e)).perm (List.Perm.cons _ (pick_perm o))
  have nd := K2.nd
  simp only [feet, It.foot] at nd
  have hd : ∀ n ∈ F, n ∉ G := fun n h1 h2 => (List.nodup_append.1 nd).2.2 n h1 n (List.mem_append_left _ h2) rfl
  have hG := K2.lt 1 (it := .ow d xs G) rfl
  refine app_own (es := [d]) (G := G) (K.ow i e) hx ?_ (by simpa using hw) hd (K.lt i e) hG hb hb2 fun v' F' h' J => hL v' F' h' ?_
  · simp only [Owns]
    exact ⟨xs, [], G, [], by simp, by simp, by simp, K2.ow 1 rfl, rfl, rfl⟩
  · refine St.frame (T := [.ow (.arr k ds) [v] F, .ow d xs G]) (T1 := [_]) K2 ?_
    simpa [feet, It.foot] using J

/-- One element of one cell, for a while in a block of its own. -/
theorem St.elt1 (K : St h0 Z T h) {k : Nat} {z : List Value} {x : Value} {u : Tok L} (hz : z.length = k) (hx : x.cells.size = k) (ho : x.cells.toList.all (·.oneCell') = true)
    (hL : ∀ n h', St h0 Z T h' → n < h'.size → srcC k h' (.slice (some ⟨n, 0, none⟩) 1 1) = some (1, x.cells.toList) → L (.slice (some ⟨n, 0, none⟩) 1 1) h') : stepT P (.blds k 1 z [(0, k)]) [x] h L u := by
  rw [s_blds1 hz hx ho]
  exact hL _ _ (K.tmp _) (Nat.lt_succ_self _) (src_one push_new (by simpa using hx))

/-- A store into an element of plain values. -/
theorem St.elem (K : St h0 Z T h) {xs : List Value} {v : Value} {F : List Nat} (i : Nat) (e : T[i]? = some (.ow (.arr 1 (xs.map .val)) [v] F)) (hne : 0 < xs.length) :
    ∃ n c p cap, v = .slice (some ⟨n, 0, none⟩) xs.length cap ∧ F = [n] ∧ h.at_ n = .cells c 1 p true ∧ c.take xs.length = xs ∧ xs.length ≤ c.length ∧
      ∀ j y, j < xs.length → one y = true → St h0 Z (T.set i (.ow (.arr 1 ((xs.set j y).map .val)) [v] F)) (h.set n (.cells (c.set j y) 1 p true)) := by
  have ho := K.ow i e
  simp only [Own, List.length_map, Nat.mul_one] at ho
  obtain ⟨hw0, ⟨e0, e1, rfl⟩ | ⟨n, c, opn, cap, Gi, e1, rfl, e2, e3, e4, e5, e6⟩⟩ := ho
  · simp at e0; subst e0; simp at hne
  · simp only [List.cons.injEq, and_true] at e1
    have ev : c.take xs.length = xs := by
      have := e6.rd.vals
      exact this
    have eG : Gi = [] := by
      have : ∀ {xs : List Value} {cs : List Value} {G : List Nat}, Owns h (xs.map .val) cs G → G = [] := by
        intro xs
        induction xs with
        | nil => intro cs G g; simp only [List.map_nil, Owns] at g; exact g.2
        | cons x xs ih =>
          intro cs G g
          simp only [List.map_cons, Owns, Own] at g
          obtain ⟨c1, c2, F1, F2, _, rfl, _, ⟨_, _, rfl⟩, g2⟩ := g
          rw [ih g2]; rfl
      exact this e6
    subst eG
    refine ⟨n, c, opn, cap, e1, rfl, e3, ev, e5, fun j y hj hy => ?_⟩
    refine K.at e ⟨Nat.le_refl _, fun m hm hz => set_other (by simpa [It.foot] using hz), ⟨?_, trivial⟩, by simp [feet, It.foot], fun m hm => ?_⟩
    · show Own _ _ _ _
      simp only [Own]
      refine ⟨by intro d hd; obtain ⟨_, _, rfl⟩ := List.mem_map.1 hd; rfl, .inr ⟨n, c.set j y, opn, cap, [], by simpa using e1, rfl, by simp, set_same, by simpa using e4, by simpa using e5, ?_⟩⟩
      have : (c.set j y).take ((xs.set j y).map D.val).length = xs.set j y := by
        rw [List.length_map, List.length_set, List.take_set, ev]
      rw [Nat.mul_one, this]
      refine Owns.vals ?_
      have hall : xs.all one = true := by
        have : ∀ {xs : List Value} {cs : List Value} {G : List Nat}, Owns h (xs.map .val) cs G → xs.all one = true := by
          intro xs
          induction xs with
          | nil => intros; rfl
          | cons x xs ih =>
            intro cs G g
            simp only [List.map_cons, Owns, Own] at g
            obtain ⟨c1, c2, F1, F2, _, rfl, _, ⟨_, h1, _⟩, g2⟩ := g
            simp [h1, ih g2]
        exact this e6
      rw [List.all_eq_true] at hall ⊢
      intro z hz
      rcases List.mem_or_eq_of_mem_set hz with hz | rfl
      · exact hall z hz
      · exact hy
    · simp only [feet, It.foot, List.append_nil, List.mem_singleton] at hm
      subst hm
      exact ⟨.inl (by simp [It.foot]), K.lt i e _ (by simp [It.foot])⟩

end
end Go.Proofs.Ytdfmdclfnhgjiaa.Can
