/- Items of documents: how their trees read; what is right; where one is found.
   Conditions: those that each law names. -/
import Derived.Test.YtdfmdclfnhgjiaaM3
import Derived.Test.YtdfmdclfnhgjiaaObQ
set_option linter.unusedVariables false
set_option linter.unusedSimpArgs false
namespace Go.Proofs.Ytdfmdclfnhgjiaa.Can
open Go

/-! ### Trees -/
structure IT where
  num : Int
  body : OT
  has : Bool
  data : ByteArray
def encI (x : IT) : D := .str [.val (.int .i64 x.num), encO x.body, .val (.bool x.has), .val (.string x.data)]
def encIs (xs : List IT) : D := .arr 8 (xs.map encI)
def encDoc (xs : List IT) (root : Int) : D := .str [encIs xs, .val (.int .i64 root)]
def okI (x : IT) : Prop := okO x.body ∧ smO x.body ∧ okS x.data
def okIs (xs : List IT) : Prop := xs.length ≤ 1048576 ∧ ∀ x ∈ xs, okI x
def zeroI : IT := ⟨0, zeroT, false, ⟨#[]⟩⟩
def iat (xs : List IT) (i : Nat) : IT := xs[i]?.getD zeroI
theorem iat_eq {xs : List IT} {i : Nat} (hi : i < xs.length) : iat xs i = xs[i] := by simp [iat, hi]
theorem iat_ok {xs : List IT} {i : Nat} (hi : i < xs.length) (h : okIs xs) : okI (iat xs i) := by rw [iat_eq hi]; exact h.2 _ (List.getElem_mem hi)
theorem wid_item (x : IT) : wid (encI x) = 8 := by simp [encI, wid, wids, wid_obj]

section
variable {P : Program} {h : CH} {L : Value → CH → Prop} {S : Nat → Prop}
/-- An item that may be read: its cells. -/
theorem Rd.item {x : IT} {cs : List Value} (g : Rd h S (encI x) cs) : ∃ a b t vk vl, cs = [.int .i64 x.num, .int .i64 a, .int .i64 b, .string t, vk, vl, .bool x.has, .string x.data] ∧ Rd h S (encO x.body) [.int .i64 a, .int .i64 b, .string t, vk, vl] := by
  obtain ⟨num, ⟨a, b, t, ks, kd⟩, has, data⟩ := x
  simp only [encI] at g ⊢
  rw [Rd] at g
  simp only [Rds, Rd.eq_1] at g
  obtain ⟨_, _, rfl, ⟨rfl, _⟩, c1, _, rfl, g1, _, _, rfl, ⟨rfl, _⟩, _, _, rfl, ⟨rfl, _⟩, rfl⟩ := g
  obtain ⟨vk, vl, rfl, _, _⟩ := g1.obj
  exact ⟨a, b, t, vk, vl, by simp, g1⟩
theorem Rd.doc {xs : List IT} {root : Int} {cs : List Value} (g : Rd h S (encDoc xs root) cs) : ∃ v, cs = [v, .int .i64 root] ∧ Rd h S (encIs xs) [v] := by
  simp only [encDoc, Rd, Rds] at g
  obtain ⟨c1, _, rfl, g1, _, _, rfl, ⟨rfl, _⟩, rfl⟩ := g
  have l1 := g1.len
  simp only [encIs, wid] at l1
  obtain ⟨v, rfl⟩ := List.length_eq_one_iff.1 l1
  exact ⟨v, by simp, g1⟩
theorem Rd.kind {o : OT} {a b : Int} {t : ByteArray} {vk vl : Value} (g : Rd h S (encO o) [.int .i64 a, .int .i64 b, .string t, vk, vl]) : ∃ ks kd, o = .mk a b t ks kd := by
  obtain ⟨a', b', t', ks, kd⟩ := o
  obtain ⟨vk', vl', e, _, _⟩ := g.obj
  simp only [List.cons.injEq, Value.int.injEq, Value.string.injEq, true_and] at e
  obtain ⟨rfl, rfl, rfl, _⟩ := e
  exact ⟨ks, kd, rfl⟩
theorem items_len {xs : List IT} {a : Option Addr} {len cap : Nat} (g : Rd h S (encIs xs) [.slice a len cap]) : len = xs.length := by
  obtain ⟨_, _, e⟩ := Rd.form g
  cases e; simp
/-- The place of an item. -/
theorem r_item {xs : List IT} {a : Option Addr} {len cap : Nat} {kd : IntKind} {i : Int} {u : Tok L} (g : Rd h S (encIs xs) [.slice a len cap]) (hi0 : 0 ≤ i) (hi : i < xs.length)
    (hL : ∀ n o cs, S n → Rd h S (encI (iat xs i.toNat)) cs → (∀ j, j < 8 → ldC (o + j) (h.at_ n) = cs[j]?) → ldA o 8 (h.at_ n) = some (.agg cs.toArray) → cs.length = 8 → L (.pointer (some ⟨n, o, none⟩)) h) : stepT P (.iaddr 8) [.slice a len cap, .int kd i] h L u := by
  refine r_iaddrK g hi0 (by simpa using hi) fun n o cs hn hr hc ha hl => hL n o cs hn ?_ hc (ha (by omega)) hl
  rw [iat_eq (by omega)]
  simpa using hr
theorem s_cell8 {x : List Value} {u : Tok L} (hx : x.all (·.oneCell') = true) (hl : x.length = 8) {n : Nat} :
    stT 8 0 (.agg x.toArray) (.cells [.int .i64 0, .int .i64 0, .int .i64 0, .string ⟨#[]⟩, .slice none 0 0, .slice none 0 0, .bool false, .string ⟨#[]⟩] 8 false true) n h L u = L undef (h.set n (.cells x 8 false true)) := st_all hx hl rfl
theorem ld8 {x : List Value} (hl : x.length = 8) {k : Nat} {p q : Bool} : ldA 0 8 (.cells x k p q) = some (.agg x.toArray) := by
  simp [ldA, hl, List.take_of_length_le (Nat.le_of_eq hl)]
theorem ld8e {a b c d e f g i : Value} {k : Nat} {p q : Bool} : ldA 0 8 (.cells [a, b, c, d, e, f, g, i] k p q) = some (.agg [a, b, c, d, e, f, g, i].toArray) := rfl
/-- A body's five cells, one behind the number. -/
theorem ld15 {x0 a b c d e f g : Value} {k : Nat} {p q : Bool} : ldA 1 5 (.cells [x0, a, b, c, d, e, f, g] k p q) = some (.agg [a, b, c, d, e].toArray) := rfl
end

theorem ld2e {a b : Value} {k : Nat} {p q : Bool} : ldA 0 2 (.cells [a, b] k p q) = some (.agg [a, b].toArray) := rfl
theorem ld2 {x : List Value} (hl : x.length = 2) {k : Nat} {p q : Bool} : ldA 0 2 (.cells x k p q) = some (.agg x.toArray) := by
  simp [ldA, hl, List.take_of_length_le (Nat.le_of_eq hl)]
theorem s_box1 {P : Program} {h : CH} {L : Value → CH → Prop} {x : Value} {k : Nat} (e : x.oneCell' = true) {u : Tok L} : stepT P (.box k) [x] h L u = L (.pointer (some ⟨h.size, 0, none⟩)) (h.push (.cells [x] k false true)) := by
  have e2 : x.cells.toList.all (·.oneCell') = true := by rw [cells_one e]; simp [e]
  have e3 : ([x] : List Value).all (·.oneCell') = true := by simp [e]
  simp only [stepT, stepW, newC, nW, cells_one e]
  rw [if_pos e3]
theorem s_mkF1 {P : Program} {h : CH} {L : Value → CH → Prop} {fn : Fn} {x : Value} {u : Tok L} : stepT P (.mkF fn 0) [x] h L u = L (.func fn #[] #[x]) h := rfl
/-- A call through a function's value. -/
theorem callvT_of {P : Program} {f : FuncId} {x y : Array Value} {vs : List Value} {h : CH} {L L' : Value → CH → Prop} {u : Tok L'} (hg : goFn P f) (g : callW P f (x.toList ++ vs ++ y.toList) h L) (hk : ∀ v h', h.size ≤ h'.size → L v h' → L' v h') : stepT P .callv (.func (.func f) x y :: vs) h L' u :=
  ⟨hg, callW_mono g hk⟩

/-! ### Plain law -/
def keyLen : ByteArray := ⟨#[76, 101, 110, 103, 116, 104]⟩
def kindOf : OT → Int
  | .mk a _ _ _ _ => a
def numOf : OT → Int
  | .mk _ b _ _ _ => b
def lenB (o : OT) : Int := if (entO o keyLen).2 = true ∧ kindOf (entO o keyLen).1 = 4 then numOf (entO o keyLen).1 else -1
def findI (xs : List IT) (num : Int) : Nat → Int
  | i => if h : i < xs.length then if (iat xs i).num = num then i else findI xs num (i + 1) else -1
termination_by i => xs.length - i
def itemB (x : IT) : Bool := inB x.num 1 99 && okB x.body && (if x.has = true then decide (kindOf x.body = 8) && decide (lenB x.body = x.data.size) else decide (x.data = ⟨#[]⟩))
def rowB (xs : List IT) (i : Nat) : Bool := itemB (iat xs i) && (decide (i = 0) || decide ((iat xs (i - 1)).num < (iat xs i).num))
def docB (xs : List IT) (root : Int) : Bool := decide (∀ i, i < xs.length → rowB xs i = true) && (decide (xs.length ≤ 30) && (decide (0 ≤ findI xs root 0) && decide (kindOf (iat xs (findI xs root 0).toNat).body = 8)))
theorem docB_bad {xs : List IT} {root : Int} {i : Nat} (hi : i < xs.length) (h : rowB xs i = false) : docB xs root = false := by
  have : ¬ ∀ j, j < xs.length → rowB xs j = true := fun q => by rw [q i hi] at h; cases h
  simp only [docB, decide_eq_false this, Bool.false_and]
theorem docB_good {xs : List IT} {root : Int} (h : ∀ j, j < xs.length → rowB xs j = true) : docB xs root = (decide (xs.length ≤ 30) && (decide (0 ≤ findI xs root 0) && decide (kindOf (iat xs (findI xs root 0).toNat).body = 8))) := by
  simp only [docB, decide_eq_true h, Bool.true_and]
theorem find_here {xs : List IT} {num : Int} {i : Nat} (hi : i < xs.length) (h : (iat xs i).num = num) : findI xs num i = i := by
  rw [findI, dif_pos hi, if_pos h]
theorem find_next {xs : List IT} {num : Int} {i : Nat} (hi : i < xs.length) (h : ¬ (iat xs i).num = num) : findI xs num i = findI xs num (i + 1) := by
  conv => lhs; rw [findI, dif_pos hi, if_neg h]
theorem find_end {xs : List IT} {num : Int} {i : Nat} (hi : ¬ i < xs.length) : findI xs num i = -1 := by
  rw [findI, dif_neg hi]
theorem find_range (xs : List IT) (num : Int) : ∀ n i, xs.length - i = n → findI xs num i = -1 ∨ (i ≤ findI xs num i ∧ findI xs num i < xs.length)
  | 0, i, h => by
    unfold findI
    rw [dif_neg (by omega)]; exact .inl rfl
  | n + 1, i, h => by
    unfold findI
    rw [dif_pos (by omega)]
    split
    · right; omega
    · rcases find_range xs num n (i + 1) (by omega) with e | e
      · exact .inl e
      · right; omega
theorem kind_of_ent {o : OT} {key : ByteArray} (h : (entO o key).2 = true) : kindOf o = 8 := by
  obtain ⟨a, b, t, ks, kd⟩ := o
  unfold entO at h
  split at h
  · cases h
  · rename_i hn
    simp only [atO] at hn
    split at hn
    · omega
    · rename_i h8; simp only [kindOf]; omega

/-! ### The functions -/
theorem c84 {h : CH} {S : Nat → Prop} {cs : List Value} {x : IT} (hs : Rd h S (encI x) cs) (hS : ∀ n, S n → n < h.size) (ho : okI x) : callW Try.prog 84 [.agg cs.toArray] h fun r h' => Ext h h' ∧ r = .int .i64 (lenB x.body) := by
  refine callW_of (wf _) Try.func84 m84_ok (by simp [m84]) ?_
  have hones := hs.ones
  obtain ⟨a, b, t, vk, vl, rfl, hb⟩ := hs.item
  simp -dsimp -implicitDefEqProofs (disch := omega) only [Z00, Z01, Z02, Z03, Z04, Z05, Z06, Z07, Z08, Z09, Z0a, Z0b, Z0c, Z0d, Z0e, Z0f, Z0g, Z0h, Z0i, Z0j, Z0k, Z2b, Z2c, Z0m, Z0n, Z0o, Z0p, Z0q, Z0r, Z0s, Z0t, Z0u, Z0v, Z0w, Z0x, Z0y, Z0z, Z10, Z11, Z12, Z13, Z14, Z15, Z16, Z17, Z18, Z19, ↓reduceIte, Nat.reduceEqDiff, Z1a, Z1b, Z1c, Z1d, Z1e, Z1f, Z1g, Z1h, Z1i, Z1j, Z1k, Z1l, Z1m, Z1n, Z1o, Z1p, Z1q, Z1r, Z1s, Z1t, Z1u, Z1v, Z1w, Z1x, Z1y, Z1z, Z20, Z21, Z22, Z23, Z24, Z25, Z26, Z27, Z28, Z29, Z2a, Z2d, retK, resC, resV, Z2h, Z2i, Z2j, Z2k, Z2l, Z2m, Z2n, Z2o, Z2p, Z2q, Z2r, Z2s, Z2t, Z2u, Z2v, Z2w, Z2x, Nat.reduceAdd, Nat.reduceLT, Nat.reduceLeDiff, Z2y, Z2z, Z30, Z31, Z32, Z33, Z34, Z35, Z36, Z37, Z38, Z39, m84_1, m84]
  rw [s_box hones]
  have K1 := (St.nil h).box (cs := [.int .i64 x.num, .int .i64 a, .int .i64 b, .string t, vk, vl, .bool x.has, .string x.data]) (k := 8) (p := false)
  revert K1
  generalize h.push (.cells [.int .i64 x.num, .int .i64 a, .int .i64 b, .string t, vk, vl, .bool x.has, .string x.data] 8 false true) = h1
  intro K1
  have b1 := K1.bx 0 rfl
  have hS0 : Safe S h [] := Safe.of hS
  simp -dsimp -implicitDefEqProofs (disch := omega) only [Z00, Z01, Z02, Z03, Z04, Z05, Z06, Z07, Z08, Z09, Z0a, Z0b, Z0c, Z0d, Z0e, Z0f, Z0g, Z0h, Z0i, Z0j, Z0k, Z2b, Z2c, Z0m, Z0n, Z0o, Z0p, Z0q, Z0r, Z0s, Z0t, Z0u, Z0v, Z0w, Z0x, Z0y, Z0z, Z10, Z11, Z12, Z13, Z14, Z15, Z16, Z17, Z18, Z19, ↓reduceIte, Nat.reduceEqDiff, Z1a, Z1b, Z1c, Z1d, Z1e, Z1f, Z1g, Z1h, Z1i, Z1j, Z1k, Z1l, Z1m, Z1n, Z1o, Z1p, Z1q, Z1r, Z1s, Z1t, Z1u, Z1v, Z1w, Z1x, Z1y, Z1z, Z20, Z21, Z22, Z23, Z24, Z25, Z26, Z27, Z28, Z29, Z2a, Z2d, retK, resC, resV, Z2h, Z2i, Z2j, Z2k, Z2l, Z2m, Z2n, Z2o, Z2p, Z2q, Z2r, Z2s, Z2t, Z2u, Z2v, Z2w, Z2x, Nat.reduceAdd, Nat.reduceLT, Nat.reduceLeDiff, Z2y, Z2z, Z30, Z31, Z32, Z33, Z34, Z35, Z36, Z37, Z38, Z39, m84_1, m84, b1, ld15]
  refine callT_of (c8 (K1.rd hb hS0) (K1.safe0 hS0).lt ho.2.1) ?_
  rintro r h2 - ⟨ext2, cs', F, rfl, own, fr⟩
  have hl : cs'.length = 5 := own.len.trans (wid_obj _)
  obtain ⟨a', b', t', ks', kd', eo⟩ : ∃ a' b' t' ks' kd', (entO x.body keyLen).1 = .mk a' b' t' ks' kd' := by
    cases he : (entO x.body keyLen).1; exact ⟨_, _, _, _, _, rfl⟩
  have own' := own.rd
  have ek : entO x.body ⟨#[76, 101, 110, 103, 116, 104]⟩ = entO x.body keyLen := rfl
  rw [ek] at own' ⊢
  rw [eo] at own'
  have hones2 := own'.ones
  obtain ⟨vk', vl', rfl, _, _⟩ := own'.obj
  simp -dsimp -implicitDefEqProofs (disch := omega) only [Z00, Z01, Z02, Z03, Z04, Z05, Z06, Z07, Z08, Z09, Z0a, Z0b, Z0c, Z0d, Z0e, Z0f, Z0g, Z0h, Z0i, Z0j, Z0k, Z2b, Z2c, Z0m, Z0n, Z0o, Z0p, Z0q, Z0r, Z0s, Z0t, Z0u, Z0v, Z0w, Z0x, Z0y, Z0z, Z10, Z11, Z12, Z13, Z14, Z15, Z16, Z17, Z18, Z19, ↓reduceIte, Nat.reduceEqDiff, Z1a, Z1b, Z1c, Z1d, Z1e, Z1f, Z1g, Z1h, Z1i, Z1j, Z1k, Z1l, Z1m, Z1n, Z1o, Z1p, Z1q, Z1r, Z1s, Z1t, Z1u, Z1v, Z1w, Z1x, Z1y, Z1z, Z20, Z21, Z22, Z23, Z24, Z25, Z26, Z27, Z28, Z29, Z2a, Z2d, retK, resC, resV, Z2h, Z2i, Z2j, Z2k, Z2l, Z2m, Z2n, Z2o, Z2p, Z2q, Z2r, Z2s, Z2t, Z2u, Z2v, Z2w, Z2x, Nat.reduceAdd, Nat.reduceLT, Nat.reduceLeDiff, Z2y, Z2z, Z30, Z31, Z32, Z33, Z34, Z35, Z36, Z37, Z38, Z39, m84_1, m84, s_cell hones2 hl]
  have e3 : Ext h2 _ := Ext.cell (h := h2) (z := [.int .i64 0, .int .i64 0, .string ⟨#[]⟩, .slice none 0 0, .slice none 0 0]) (x := [.int .i64 a', .int .i64 b', .string t', vk', vl']) (k := 5)
  have fin := K1.ext.trans (ext2.trans e3)
  cases hok : (entO x.body keyLen).2
  · simp -dsimp -implicitDefEqProofs (disch := omega) only [Z00, Z01, Z02, Z03, Z04, Z05, Z06, Z07, Z08, Z09, Z0a, Z0b, Z0c, Z0d, Z0e, Z0f, Z0g, Z0h, Z0i, Z0j, Z0k, Z2b, Z2c, Z0m, Z0n, Z0o, Z0p, Z0q, Z0r, Z0s, Z0t, Z0u, Z0v, Z0w, Z0x, Z0y, Z0z, Z10, Z11, Z12, Z13, Z14, Z15, Z16, Z17, Z18, Z19, ↓reduceIte, Nat.reduceEqDiff, Z1a, Z1b, Z1c, Z1d, Z1e, Z1f, Z1g, Z1h, Z1i, Z1j, Z1k, Z1l, Z1m, Z1n, Z1o, Z1p, Z1q, Z1r, Z1s, Z1t, Z1u, Z1v, Z1w, Z1x, Z1y, Z1z, Z20, Z21, Z22, Z23, Z24, Z25, Z26, Z27, Z28, Z29, Z2a, Z2d, retK, resC, resV, Z2h, Z2i, Z2j, Z2k, Z2l, Z2m, Z2n, Z2o, Z2p, Z2q, Z2r, Z2s, Z2t, Z2u, Z2v, Z2w, Z2x, Nat.reduceAdd, Nat.reduceLT, Nat.reduceLeDiff, Z2y, Z2z, Z30, Z31, Z32, Z33, Z34, Z35, Z36, Z37, Z38, Z39, m84_1, m84]
    exact ⟨fin, by simp [lenB, hok]⟩
  by_cases h4 : a' = 4
  · subst h4
    have d4 : ((4 : Int) != 4) = false := rfl
    simp -dsimp -implicitDefEqProofs (disch := omega) only [Z00, Z01, Z02, Z03, Z04, Z05, Z06, Z07, Z08, Z09, Z0a, Z0b, Z0c, Z0d, Z0e, Z0f, Z0g, Z0h, Z0i, Z0j, Z0k, Z2b, Z2c, Z0m, Z0n, Z0o, Z0p, Z0q, Z0r, Z0s, Z0t, Z0u, Z0v, Z0w, Z0x, Z0y, Z0z, Z10, Z11, Z12, Z13, Z14, Z15, Z16, Z17, Z18, Z19, ↓reduceIte, Nat.reduceEqDiff, Z1a, Z1b, Z1c, Z1d, Z1e, Z1f, Z1g, Z1h, Z1i, Z1j, Z1k, Z1l, Z1m, Z1n, Z1o, Z1p, Z1q, Z1r, Z1s, Z1t, Z1u, Z1v, Z1w, Z1x, Z1y, Z1z, Z20, Z21, Z22, Z23, Z24, Z25, Z26, Z27, Z28, Z29, Z2a, Z2d, retK, resC, resV, Z2h, Z2i, Z2j, Z2k, Z2l, Z2m, Z2n, Z2o, Z2p, Z2q, Z2r, Z2s, Z2t, Z2u, Z2v, Z2w, Z2x, Nat.reduceAdd, Nat.reduceLT, Nat.reduceLeDiff, Z2y, Z2z, Z30, Z31, Z32, Z33, Z34, Z35, Z36, Z37, Z38, Z39, m84_1, m84, d4]
    exact ⟨fin, by simp [lenB, hok, eo, kindOf, numOf]⟩
  · have d4 : (a' != 4) = true := by simpa using h4
    simp -dsimp -implicitDefEqProofs (disch := omega) only [Z00, Z01, Z02, Z03, Z04, Z05, Z06, Z07, Z08, Z09, Z0a, Z0b, Z0c, Z0d, Z0e, Z0f, Z0g, Z0h, Z0i, Z0j, Z0k, Z2b, Z2c, Z0m, Z0n, Z0o, Z0p, Z0q, Z0r, Z0s, Z0t, Z0u, Z0v, Z0w, Z0x, Z0y, Z0z, Z10, Z11, Z12, Z13, Z14, Z15, Z16, Z17, Z18, Z19, ↓reduceIte, Nat.reduceEqDiff, Z1a, Z1b, Z1c, Z1d, Z1e, Z1f, Z1g, Z1h, Z1i, Z1j, Z1k, Z1l, Z1m, Z1n, Z1o, Z1p, Z1q, Z1r, Z1s, Z1t, Z1u, Z1v, Z1w, Z1x, Z1y, Z1z, Z20, Z21, Z22, Z23, Z24, Z25, Z26, Z27, Z28, Z29, Z2a, Z2d, retK, resC, resV, Z2h, Z2i, Z2j, Z2k, Z2l, Z2m, Z2n, Z2o, Z2p, Z2q, Z2r, Z2s, Z2t, Z2u, Z2v, Z2w, Z2x, Nat.reduceAdd, Nat.reduceLT, Nat.reduceLeDiff, Z2y, Z2z, Z30, Z31, Z32, Z33, Z34, Z35, Z36, Z37, Z38, Z39, m84_1, m84, d4]
    exact ⟨fin, by simp [lenB, hok, eo, kindOf, h4]⟩

theorem c58 {h : CH} {S : Nat → Prop} {cs : List Value} {xs : List IT} {root num : Int} (hs : Rd h S (encDoc xs root) cs) (hS : ∀ n, S n → n < h.size) (hb : xs.length ≤ 1048576) : callW Try.prog 58 [.agg cs.toArray, .int .i64 num] h fun r h' => Ext h h' ∧ r = .int .i64 (findI xs num 0) := by
  refine callW_of (wf _) Try.func58 m58_ok (by simp [m58]) ?_
  have hones := hs.ones
  obtain ⟨v, rfl, hv⟩ := hs.doc
  obtain ⟨av, cv, rfl⟩ := Rd.form hv
  simp only [List.length_map] at *
  simp -dsimp -implicitDefEqProofs (disch := omega) only [Z00, Z01, Z02, Z03, Z04, Z05, Z06, Z07, Z08, Z09, Z0a, Z0b, Z0c, Z0d, Z0e, Z0f, Z0g, Z0h, Z0i, Z0j, Z0k, Z2b, Z2c, Z0m, Z0n, Z0o, Z0p, Z0q, Z0r, Z0s, Z0t, Z0u, Z0v, Z0w, Z0x, Z0y, Z0z, Z10, Z11, Z12, Z13, Z14, Z15, Z16, Z17, Z18, Z19, ↓reduceIte, Nat.reduceEqDiff, Z1a, Z1b, Z1c, Z1d, Z1e, Z1f, Z1g, Z1h, Z1i, Z1j, Z1k, Z1l, Z1m, Z1n, Z1o, Z1p, Z1q, Z1r, Z1s, Z1t, Z1u, Z1v, Z1w, Z1x, Z1y, Z1z, Z20, Z21, Z22, Z23, Z24, Z25, Z26, Z27, Z28, Z29, Z2a, Z2d, retK, resC, resV, Z2h, Z2i, Z2j, Z2k, Z2l, Z2m, Z2n, Z2o, Z2p, Z2q, Z2r, Z2s, Z2t, Z2u, Z2v, Z2w, Z2x, Nat.reduceAdd, Nat.reduceLT, Nat.reduceLeDiff, Z2y, Z2z, Z30, Z31, Z32, Z33, Z34, Z35, Z36, Z37, Z38, Z39, m58_1, m58_2, m58_3, m58]
  rw [s_box hones]
  have K1 := (St.nil h).box (cs := [.slice av xs.length cv, .int .i64 root]) (k := 2) (p := false)
  revert K1
  generalize h.push (.cells [.slice av xs.length cv, .int .i64 root] 2 false true) = h1
  intro K1
  have b1 := K1.bx 0 rfl
  have hv1 := K1.rd hv (Safe.of hS)
  simp -dsimp -implicitDefEqProofs (disch := omega) only [Z00, Z01, Z02, Z03, Z04, Z05, Z06, Z07, Z08, Z09, Z0a, Z0b, Z0c, Z0d, Z0e, Z0f, Z0g, Z0h, Z0i, Z0j, Z0k, Z2b, Z2c, Z0m, Z0n, Z0o, Z0p, Z0q, Z0r, Z0s, Z0t, Z0u, Z0v, Z0w, Z0x, Z0y, Z0z, Z10, Z11, Z12, Z13, Z14, Z15, Z16, Z17, Z18, Z19, ↓reduceIte, Nat.reduceEqDiff, Z1a, Z1b, Z1c, Z1d, Z1e, Z1f, Z1g, Z1h, Z1i, Z1j, Z1k, Z1l, Z1m, Z1n, Z1o, Z1p, Z1q, Z1r, Z1s, Z1t, Z1u, Z1v, Z1w, Z1x, Z1y, Z1z, Z20, Z21, Z22, Z23, Z24, Z25, Z26, Z27, Z28, Z29, Z2a, Z2d, retK, resC, resV, Z2h, Z2i, Z2j, Z2k, Z2l, Z2m, Z2n, Z2o, Z2p, Z2q, Z2r, Z2s, Z2t, Z2u, Z2v, Z2w, Z2x, Nat.reduceAdd, Nat.reduceLT, Nat.reduceLeDiff, Z2y, Z2z, Z30, Z31, Z32, Z33, Z34, Z35, Z36, Z37, Z38, Z39, m58_1, m58_2, m58_3, m58]
  refine loopT_of (wpC_loop (fun ρ h2 => ∃ i : Nat, h2 = h1 ∧ i ≤ xs.length ∧ ρ 1 = .int .i64 num ∧ ρ 2 = .pointer (some ⟨h.size, 0, none⟩) ∧ ρ 5 = .int .i64 i ∧ findI xs num 0 = findI xs num i) (fun ρ _ => xs.length - intOf (ρ 5)) ⟨0, rfl, Nat.zero_le _, ?_, ?_, ?_, rfl⟩ ?_)
  · simp -dsimp -implicitDefEqProofs (disch := omega) only [Z00, Z01, Z02, Z03, Z04, Z05, Z06, Z07, Z08, Z09, Z0a, Z0b, Z0c, Z0d, Z0e, Z0f, Z0g, Z0h, Z0i, Z0j, Z0k, Z2b, Z2c, Z0m, Z0n, Z0o, Z0p, Z0q, Z0r, Z0s, Z0t, Z0u, Z0v, Z0w, Z0x, Z0y, Z0z, Z10, Z11, Z12, Z13, Z14, Z15, Z16, Z17, Z18, Z19, ↓reduceIte, Nat.reduceEqDiff, Z1a, Z1b, Z1c, Z1d, Z1e, Z1f, Z1g, Z1h, Z1i, Z1j, Z1k, Z1l, Z1m, Z1n, Z1o, Z1p, Z1q, Z1r, Z1s, Z1t, Z1u, Z1v, Z1w, Z1x, Z1y, Z1z, Z20, Z21, Z22, Z23, Z24, Z25, Z26, Z27, Z28, Z29, Z2a, Z2d, retK, resC, resV, Z2h, Z2i, Z2j, Z2k, Z2l, Z2m, Z2n, Z2o, Z2p, Z2q, Z2r, Z2s, Z2t, Z2u, Z2v, Z2w, Z2x, Nat.reduceAdd, Nat.reduceLT, Nat.reduceLeDiff, Z2y, Z2z, Z30, Z31, Z32, Z33, Z34, Z35, Z36, Z37, Z38, Z39, m58_1, m58_2, m58_3, m58]
  · simp -dsimp -implicitDefEqProofs (disch := omega) only [Z00, Z01, Z02, Z03, Z04, Z05, Z06, Z07, Z08, Z09, Z0a, Z0b, Z0c, Z0d, Z0e, Z0f, Z0g, Z0h, Z0i, Z0j, Z0k, Z2b, Z2c, Z0m, Z0n, Z0o, Z0p, Z0q, Z0r, Z0s, Z0t, Z0u, Z0v, Z0w, Z0x, Z0y, Z0z, Z10, Z11, Z12, Z13, Z14, Z15, Z16, Z17, Z18, Z19, ↓reduceIte, Nat.reduceEqDiff, Z1a, Z1b, Z1c, Z1d, Z1e, Z1f, Z1g, Z1h, Z1i, Z1j, Z1k, Z1l, Z1m, Z1n, Z1o, Z1p, Z1q, Z1r, Z1s, Z1t, Z1u, Z1v, Z1w, Z1x, Z1y, Z1z, Z20, Z21, Z22, Z23, Z24, Z25, Z26, Z27, Z28, Z29, Z2a, Z2d, retK, resC, resV, Z2h, Z2i, Z2j, Z2k, Z2l, Z2m, Z2n, Z2o, Z2p, Z2q, Z2r, Z2s, Z2t, Z2u, Z2v, Z2w, Z2x, Nat.reduceAdd, Nat.reduceLT, Nat.reduceLeDiff, Z2y, Z2z, Z30, Z31, Z32, Z33, Z34, Z35, Z36, Z37, Z38, Z39, m58_1, m58_2, m58_3, m58]
  · simp -dsimp -implicitDefEqProofs (disch := omega) only [Z00, Z01, Z02, Z03, Z04, Z05, Z06, Z07, Z08, Z09, Z0a, Z0b, Z0c, Z0d, Z0e, Z0f, Z0g, Z0h, Z0i, Z0j, Z0k, Z2b, Z2c, Z0m, Z0n, Z0o, Z0p, Z0q, Z0r, Z0s, Z0t, Z0u, Z0v, Z0w, Z0x, Z0y, Z0z, Z10, Z11, Z12, Z13, Z14, Z15, Z16, Z17, Z18, Z19, ↓reduceIte, Nat.reduceEqDiff, Z1a, Z1b, Z1c, Z1d, Z1e, Z1f, Z1g, Z1h, Z1i, Z1j, Z1k, Z1l, Z1m, Z1n, Z1o, Z1p, Z1q, Z1r, Z1s, Z1t, Z1u, Z1v, Z1w, Z1x, Z1y, Z1z, Z20, Z21, Z22, Z23, Z24, Z25, Z26, Z27, Z28, Z29, Z2a, Z2d, retK, resC, resV, Z2h, Z2i, Z2j, Z2k, Z2l, Z2m, Z2n, Z2o, Z2p, Z2q, Z2r, Z2s, Z2t, Z2u, Z2v, Z2w, Z2x, Nat.reduceAdd, Nat.reduceLT, Nat.reduceLeDiff, Z2y, Z2z, Z30, Z31, Z32, Z33, Z34, Z35, Z36, Z37, Z38, Z39, m58_1, m58_2, m58_3, m58]; rfl
  rintro ρ h2 ⟨i, rfl, hi, e1, e2, e5, hf⟩
  by_cases hc : i < xs.length
  · have d1 : decide ((i : Int) < xs.length) = true := by simp; omega
    simp -dsimp -implicitDefEqProofs (disch := omega) only [Z00, Z01, Z02, Z03, Z04, Z05, Z06, Z07, Z08, Z09, Z0a, Z0b, Z0c, Z0d, Z0e, Z0f, Z0g, Z0h, Z0i, Z0j, Z0k, Z2b, Z2c, Z0m, Z0n, Z0o, Z0p, Z0q, Z0r, Z0s, Z0t, Z0u, Z0v, Z0w, Z0x, Z0y, Z0z, Z10, Z11, Z12, Z13, Z14, Z15, Z16, Z17, Z18, Z19, ↓reduceIte, Nat.reduceEqDiff, Z1a, Z1b, Z1c, Z1d, Z1e, Z1f, Z1g, Z1h, Z1i, Z1j, Z1k, Z1l, Z1m, Z1n, Z1o, Z1p, Z1q, Z1r, Z1s, Z1t, Z1u, Z1v, Z1w, Z1x, Z1y, Z1z, Z20, Z21, Z22, Z23, Z24, Z25, Z26, Z27, Z28, Z29, Z2a, Z2d, retK, resC, resV, Z2h, Z2i, Z2j, Z2k, Z2l, Z2m, Z2n, Z2o, Z2p, Z2q, Z2r, Z2s, Z2t, Z2u, Z2v, Z2w, Z2x, Nat.reduceAdd, Nat.reduceLT, Nat.reduceLeDiff, Z2y, Z2z, Z30, Z31, Z32, Z33, Z34, Z35, Z36, Z37, Z38, Z39, m58_1, m58_2, m58_3, m58, e1, e2, e5, b1, d1]
    refine r_item hv1 (by omega) (by omega) fun n o ci hn hr hcell ha hl => ?_
    simp only [Int.toNat_natCast] at hr
    obtain ⟨a, b, t, vk, vl, rfl, _⟩ := hr.item
    have hc0 := hcell 0 (by omega)
    simp only [Nat.add_zero, List.getElem?_cons_zero] at hc0
    simp -dsimp -implicitDefEqProofs (disch := omega) only [Z00, Z01, Z02, Z03, Z04, Z05, Z06, Z07, Z08, Z09, Z0a, Z0b, Z0c, Z0d, Z0e, Z0f, Z0g, Z0h, Z0i, Z0j, Z0k, Z2b, Z2c, Z0m, Z0n, Z0o, Z0p, Z0q, Z0r, Z0s, Z0t, Z0u, Z0v, Z0w, Z0x, Z0y, Z0z, Z10, Z11, Z12, Z13, Z14, Z15, Z16, Z17, Z18, Z19, ↓reduceIte, Nat.reduceEqDiff, Z1a, Z1b, Z1c, Z1d, Z1e, Z1f, Z1g, Z1h, Z1i, Z1j, Z1k, Z1l, Z1m, Z1n, Z1o, Z1p, Z1q, Z1r, Z1s, Z1t, Z1u, Z1v, Z1w, Z1x, Z1y, Z1z, Z20, Z21, Z22, Z23, Z24, Z25, Z26, Z27, Z28, Z29, Z2a, Z2d, retK, resC, resV, Z2h, Z2i, Z2j, Z2k, Z2l, Z2m, Z2n, Z2o, Z2p, Z2q, Z2r, Z2s, Z2t, Z2u, Z2v, Z2w, Z2x, Nat.reduceAdd, Nat.reduceLT, Nat.reduceLeDiff, Z2y, Z2z, Z30, Z31, Z32, Z33, Z34, Z35, Z36, Z37, Z38, Z39, m58_1, m58_2, m58_3, m58, e1, e2, e5, b1, d1, hc0]
    by_cases hq : (iat xs i).num = num
    · have d2 : ((iat xs i).num == num) = true := by simpa using hq
      rw [find_here hc hq] at hf
      simp -dsimp -implicitDefEqProofs (disch := omega) only [Z00, Z01, Z02, Z03, Z04, Z05, Z06, Z07, Z08, Z09, Z0a, Z0b, Z0c, Z0d, Z0e, Z0f, Z0g, Z0h, Z0i, Z0j, Z0k, Z2b, Z2c, Z0m, Z0n, Z0o, Z0p, Z0q, Z0r, Z0s, Z0t, Z0u, Z0v, Z0w, Z0x, Z0y, Z0z, Z10, Z11, Z12, Z13, Z14, Z15, Z16, Z17, Z18, Z19, ↓reduceIte, Nat.reduceEqDiff, Z1a, Z1b, Z1c, Z1d, Z1e, Z1f, Z1g, Z1h, Z1i, Z1j, Z1k, Z1l, Z1m, Z1n, Z1o, Z1p, Z1q, Z1r, Z1s, Z1t, Z1u, Z1v, Z1w, Z1x, Z1y, Z1z, Z20, Z21, Z22, Z23, Z24, Z25, Z26, Z27, Z28, Z29, Z2a, Z2d, retK, resC, resV, Z2h, Z2i, Z2j, Z2k, Z2l, Z2m, Z2n, Z2o, Z2p, Z2q, Z2r, Z2s, Z2t, Z2u, Z2v, Z2w, Z2x, Nat.reduceAdd, Nat.reduceLT, Nat.reduceLeDiff, Z2y, Z2z, Z30, Z31, Z32, Z33, Z34, Z35, Z36, Z37, Z38, Z39, m58_1, m58_2, m58_3, m58, e1, e2, e5, d2]
      exact ⟨K1.ext, by rw [hf]⟩
    · have d2 : ((iat xs i).num == num) = false := by simpa using hq
      rw [find_next hc hq] at hf
      simp -dsimp -implicitDefEqProofs (disch := omega) only [Z00, Z01, Z02, Z03, Z04, Z05, Z06, Z07, Z08, Z09, Z0a, Z0b, Z0c, Z0d, Z0e, Z0f, Z0g, Z0h, Z0i, Z0j, Z0k, Z2b, Z2c, Z0m, Z0n, Z0o, Z0p, Z0q, Z0r, Z0s, Z0t, Z0u, Z0v, Z0w, Z0x, Z0y, Z0z, Z10, Z11, Z12, Z13, Z14, Z15, Z16, Z17, Z18, Z19, ↓reduceIte, Nat.reduceEqDiff, Z1a, Z1b, Z1c, Z1d, Z1e, Z1f, Z1g, Z1h, Z1i, Z1j, Z1k, Z1l, Z1m, Z1n, Z1o, Z1p, Z1q, Z1r, Z1s, Z1t, Z1u, Z1v, Z1w, Z1x, Z1y, Z1z, Z20, Z21, Z22, Z23, Z24, Z25, Z26, Z27, Z28, Z29, Z2a, Z2d, retK, resC, resV, Z2h, Z2i, Z2j, Z2k, Z2l, Z2m, Z2n, Z2o, Z2p, Z2q, Z2r, Z2s, Z2t, Z2u, Z2v, Z2w, Z2x, Nat.reduceAdd, Nat.reduceLT, Nat.reduceLeDiff, Z2y, Z2z, Z30, Z31, Z32, Z33, Z34, Z35, Z36, Z37, Z38, Z39, m58_1, m58_2, m58_3, m58, e1, e2, e5, d2]
      exact ⟨⟨i + 1, by trivial, by omega, by trivial, by trivial, rfl, hf⟩, by simp only [intOf]; omega⟩
  · have d1 : decide ((i : Int) < xs.length) = false := by simp; omega
    rw [find_end hc] at hf
    simp -dsimp -implicitDefEqProofs (disch := omega) only [Z00, Z01, Z02, Z03, Z04, Z05, Z06, Z07, Z08, Z09, Z0a, Z0b, Z0c, Z0d, Z0e, Z0f, Z0g, Z0h, Z0i, Z0j, Z0k, Z2b, Z2c, Z0m, Z0n, Z0o, Z0p, Z0q, Z0r, Z0s, Z0t, Z0u, Z0v, Z0w, Z0x, Z0y, Z0z, Z10, Z11, Z12, Z13, Z14, Z15, Z16, Z17, Z18, Z19, ↓reduceIte, Nat.reduceEqDiff, Z1a, Z1b, Z1c, Z1d, Z1e, Z1f, Z1g, Z1h, Z1i, Z1j, Z1k, Z1l, Z1m, Z1n, Z1o, Z1p, Z1q, Z1r, Z1s, Z1t, Z1u, Z1v, Z1w, Z1x, Z1y, Z1z, Z20, Z21, Z22, Z23, Z24, Z25, Z26, Z27, Z28, Z29, Z2a, Z2d, retK, resC, resV, Z2h, Z2i, Z2j, Z2k, Z2l, Z2m, Z2n, Z2o, Z2p, Z2q, Z2r, Z2s, Z2t, Z2u, Z2v, Z2w, Z2x, Nat.reduceAdd, Nat.reduceLT, Nat.reduceLeDiff, Z2y, Z2z, Z30, Z31, Z32, Z33, Z34, Z35, Z36, Z37, Z38, Z39, m58_1, m58_2, m58_3, m58, e1, e2, e5, b1, d1]
    exact ⟨K1.ext, by rw [hf]⟩

/-- A copy of an item: the body's cells go into its place. -/
theorem own_item {h : CH} {x : IT} {F : List Nat} {a b : Int} {t : ByteArray} {vk vl : Value} (o : Own h (encO x.body) [.int .i64 a, .int .i64 b, .string t, vk, vl] F) :
    Own h (encI x) [.int .i64 x.num, .int .i64 a, .int .i64 b, .string t, vk, vl, .bool x.has, .string x.data] F := by
  simp only [encI]
  rw [Own]
  rw [Owns]
  refine ⟨[.int .i64 x.num], [.int .i64 a, .int .i64 b, .string t, vk, vl, .bool x.has, .string x.data], [], F, rfl, rfl, by simp, by simp [Own, one, base, Value.oneCell'], ?_⟩
  rw [Owns]
  refine ⟨[.int .i64 a, .int .i64 b, .string t, vk, vl], [.bool x.has, .string x.data], F, [], rfl, by simp, by simp, o, ?_⟩
  rw [Owns]
  refine ⟨[.bool x.has], [.string x.data], [], [], rfl, rfl, by simp, by simp [Own, one, base, Value.oneCell'], ?_⟩
  rw [Owns]
  exact ⟨[.string x.data], [], [], [], rfl, rfl, by simp, by simp [Own, one, base, Value.oneCell'], by simp [Owns]⟩

theorem st_body {h : CH} {L : Value → CH → Prop} {x0 a b c d e f g : Value} {y : List Value} {n k : Nat} {p : Bool} {u : Tok L} (hy : y.all (·.oneCell') = true) (hl : y.length = 5) :
    stT 5 1 (.agg y.toArray) (.cells [x0, a, b, c, d, e, f, g] k p true) n h L u = L undef (h.set n (.cells (x0 :: (y ++ [f, g])) k p true)) := by
  rw [st_at (c := [x0, a, b, c, d, e, f, g]) rfl (by simpa [Value.cells] using hl) (by simpa [Value.cells] using hy) (by simp)]
  simp [Value.cells, setAt, hl]

theorem c60 {h : CH} {S : Nat → Prop} {cs : List Value} {x : IT} (hs : Rd h S (encI x) cs) (hS : ∀ n, S n → n < h.size) (ho : okI x) : callW Try.prog 60 [.agg cs.toArray] h fun r h' => ∃ cs' F, St h [] [.ow (encI x) cs' F] h' ∧ r = .agg cs'.toArray := by
  refine callW_of (wf _) Try.func60 m60_ok (by simp [m60]) ?_
  have hones := hs.ones
  obtain ⟨a, b, t, vk, vl, rfl, hb⟩ := hs.item
  simp -dsimp -implicitDefEqProofs (disch := omega) only [Z00, Z01, Z02, Z03, Z04, Z05, Z06, Z07, Z08, Z09, Z0a, Z0b, Z0c, Z0d, Z0e, Z0f, Z0g, Z0h, Z0i, Z0j, Z0k, Z2b, Z2c, Z0m, Z0n, Z0o, Z0p, Z0q, Z0r, Z0s, Z0t, Z0u, Z0v, Z0w, Z0x, Z0y, Z0z, Z10, Z11, Z12, Z13, Z14, Z15, Z16, Z17, Z18, Z19, ↓reduceIte, Nat.reduceEqDiff, Z1a, Z1b, Z1c, Z1d, Z1e, Z1f, Z1g, Z1h, Z1i, Z1j, Z1k, Z1l, Z1m, Z1n, Z1o, Z1p, Z1q, Z1r, Z1s, Z1t, Z1u, Z1v, Z1w, Z1x, Z1y, Z1z, Z20, Z21, Z22, Z23, Z24, Z25, Z26, Z27, Z28, Z29, Z2a, Z2d, retK, resC, resV, Z2h, Z2i, Z2j, Z2k, Z2l, Z2m, Z2n, Z2o, Z2p, Z2q, Z2r, Z2s, Z2t, Z2u, Z2v, Z2w, Z2x, Nat.reduceAdd, Nat.reduceLT, Nat.reduceLeDiff, Z2y, Z2z, Z30, Z31, Z32, Z33, Z34, Z35, Z36, Z37, Z38, Z39, m60]
  rw [s_box hones]
  have K1 := (St.nil h).box (cs := [.int .i64 x.num, .int .i64 a, .int .i64 b, .string t, vk, vl, .bool x.has, .string x.data]) (k := 8) (p := false)
  have z1 : (h.push (.cells [.int .i64 x.num, .int .i64 a, .int .i64 b, .string t, vk, vl, .bool x.has, .string x.data] 8 false true)).size = h.size + 1 := rfl
  revert K1 z1
  generalize h.push (.cells [.int .i64 x.num, .int .i64 a, .int .i64 b, .string t, vk, vl, .bool x.has, .string x.data] 8 false true) = h1
  intro K1 z1
  simp -dsimp -implicitDefEqProofs (disch := omega) only [Z00, Z01, Z02, Z03, Z04, Z05, Z06, Z07, Z08, Z09, Z0a, Z0b, Z0c, Z0d, Z0e, Z0f, Z0g, Z0h, Z0i, Z0j, Z0k, Z2b, Z2c, Z0m, Z0n, Z0o, Z0p, Z0q, Z0r, Z0s, Z0t, Z0u, Z0v, Z0w, Z0x, Z0y, Z0z, Z10, Z11, Z12, Z13, Z14, Z15, Z16, Z17, Z18, Z19, ↓reduceIte, Nat.reduceEqDiff, Z1a, Z1b, Z1c, Z1d, Z1e, Z1f, Z1g, Z1h, Z1i, Z1j, Z1k, Z1l, Z1m, Z1n, Z1o, Z1p, Z1q, Z1r, Z1s, Z1t, Z1u, Z1v, Z1w, Z1x, Z1y, Z1z, Z20, Z21, Z22, Z23, Z24, Z25, Z26, Z27, Z28, Z29, Z2a, Z2d, retK, resC, resV, Z2h, Z2i, Z2j, Z2k, Z2l, Z2m, Z2n, Z2o, Z2p, Z2q, Z2r, Z2s, Z2t, Z2u, Z2v, Z2w, Z2x, Nat.reduceAdd, Nat.reduceLT, Nat.reduceLeDiff, Z2y, Z2z, Z30, Z31, Z32, Z33, Z34, Z35, Z36, Z37, Z38, Z39, m60]
  have K2 := K1.box (cs := [.int .i64 0, .int .i64 0, .int .i64 0, .string ⟨#[]⟩, .slice none 0 0, .slice none 0 0, .bool false, .string ⟨#[]⟩]) (k := 8) (p := false)
  have z2 : (h1.push (.cells [.int .i64 0, .int .i64 0, .int .i64 0, .string ⟨#[]⟩, .slice none 0 0, .slice none 0 0, .bool false, .string ⟨#[]⟩] 8 false true)).size = h1.size + 1 := rfl
  revert K2 z2
  generalize h1.push (.cells [.int .i64 0, .int .i64 0, .int .i64 0, .string ⟨#[]⟩, .slice none 0 0, .slice none 0 0, .bool false, .string ⟨#[]⟩] 8 false true) = h2
  intro K2 z2
  have b1 := K2.bx 0 rfl
  have hS0 : Safe S h [] := Safe.of hS
  simp -dsimp -implicitDefEqProofs (disch := omega) only [Z00, Z01, Z02, Z03, Z04, Z05, Z06, Z07, Z08, Z09, Z0a, Z0b, Z0c, Z0d, Z0e, Z0f, Z0g, Z0h, Z0i, Z0j, Z0k, Z2b, Z2c, Z0m, Z0n, Z0o, Z0p, Z0q, Z0r, Z0s, Z0t, Z0u, Z0v, Z0w, Z0x, Z0y, Z0z, Z10, Z11, Z12, Z13, Z14, Z15, Z16, Z17, Z18, Z19, ↓reduceIte, Nat.reduceEqDiff, Z1a, Z1b, Z1c, Z1d, Z1e, Z1f, Z1g, Z1h, Z1i, Z1j, Z1k, Z1l, Z1m, Z1n, Z1o, Z1p, Z1q, Z1r, Z1s, Z1t, Z1u, Z1v, Z1w, Z1x, Z1y, Z1z, Z20, Z21, Z22, Z23, Z24, Z25, Z26, Z27, Z28, Z29, Z2a, Z2d, retK, resC, resV, Z2h, Z2i, Z2j, Z2k, Z2l, Z2m, Z2n, Z2o, Z2p, Z2q, Z2r, Z2s, Z2t, Z2u, Z2v, Z2w, Z2x, Nat.reduceAdd, Nat.reduceLT, Nat.reduceLeDiff, Z2y, Z2z, Z30, Z31, Z32, Z33, Z34, Z35, Z36, Z37, Z38, Z39, m60, b1, ld15]
  refine callT_of (c32 x.body h2 S _ (K2.rd hb hS0) (K2.safe0 hS0).lt ho.2.1) ?_
  rintro r h3 - ⟨ext3, cs', F, rfl, own3, fr3⟩
  have K3 := K2.go (ext3.stOwn own3 fr3)
  have hl : cs'.length = 5 := own3.len.trans (wid_obj _)
  have hone3 := own3.rd.ones
  have b3 := K3.bx 0 rfl
  have c3 := K3.bx 1 rfl
  obtain ⟨a', b', t', vk', vl', rfl⟩ : ∃ a' b' t' vk' vl', cs' = [.int .i64 a', .int .i64 b', .string t', vk', vl'] := by
    have g := own3.rd
    cases hx : x.body
    rw [hx] at g
    obtain ⟨_, _, e, _⟩ := g.obj
    exact ⟨_, _, _, _, _, e⟩
  simp -dsimp -implicitDefEqProofs (disch := omega) only [Z00, Z01, Z02, Z03, Z04, Z05, Z06, Z07, Z08, Z09, Z0a, Z0b, Z0c, Z0d, Z0e, Z0f, Z0g, Z0h, Z0i, Z0j, Z0k, Z2b, Z2c, Z0m, Z0n, Z0o, Z0p, Z0q, Z0r, Z0s, Z0t, Z0u, Z0v, Z0w, Z0x, Z0y, Z0z, Z10, Z11, Z12, Z13, Z14, Z15, Z16, Z17, Z18, Z19, ↓reduceIte, Nat.reduceEqDiff, Z1a, Z1b, Z1c, Z1d, Z1e, Z1f, Z1g, Z1h, Z1i, Z1j, Z1k, Z1l, Z1m, Z1n, Z1o, Z1p, Z1q, Z1r, Z1s, Z1t, Z1u, Z1v, Z1w, Z1x, Z1y, Z1z, Z20, Z21, Z22, Z23, Z24, Z25, Z26, Z27, Z28, Z29, Z2a, Z2d, retK, resC, resV, Z2h, Z2i, Z2j, Z2k, Z2l, Z2m, Z2n, Z2o, Z2p, Z2q, Z2r, Z2s, Z2t, Z2u, Z2v, Z2w, Z2x, Nat.reduceAdd, Nat.reduceLT, Nat.reduceLeDiff, Z2y, Z2z, Z30, Z31, Z32, Z33, Z34, Z35, Z36, Z37, Z38, Z39, m60, b3, st_body hone3 hl]
  have K4 := K3.set (cs' := [.int .i64 x.num, .int .i64 a', .int .i64 b', .string t', vk', vl', .bool x.has, .string x.data]) 0 rfl
  revert K4
  generalize h3.set h.size (.cells [.int .i64 x.num, .int .i64 a', .int .i64 b', .string t', vk', vl', .bool x.has, .string x.data] 8 false true) = h4
  intro K4
  have b4 := K4.bx 0 rfl
  have c4 := K4.bx 1 rfl
  have o4 := K4.ow 2 rfl
  have o5 := own_item o4
  have hones5 := o5.rd.ones
  simp -dsimp -implicitDefEqProofs (disch := omega) only [Z00, Z01, Z02, Z03, Z04, Z05, Z06, Z07, Z08, Z09, Z0a, Z0b, Z0c, Z0d, Z0e, Z0f, Z0g, Z0h, Z0i, Z0j, Z0k, Z2b, Z2c, Z0m, Z0n, Z0o, Z0p, Z0q, Z0r, Z0s, Z0t, Z0u, Z0v, Z0w, Z0x, Z0y, Z0z, Z10, Z11, Z12, Z13, Z14, Z15, Z16, Z17, Z18, Z19, ↓reduceIte, Nat.reduceEqDiff, Z1a, Z1b, Z1c, Z1d, Z1e, Z1f, Z1g, Z1h, Z1i, Z1j, Z1k, Z1l, Z1m, Z1n, Z1o, Z1p, Z1q, Z1r, Z1s, Z1t, Z1u, Z1v, Z1w, Z1x, Z1y, Z1z, Z20, Z21, Z22, Z23, Z24, Z25, Z26, Z27, Z28, Z29, Z2a, Z2d, retK, resC, resV, Z2h, Z2i, Z2j, Z2k, Z2l, Z2m, Z2n, Z2o, Z2p, Z2q, Z2r, Z2s, Z2t, Z2u, Z2v, Z2w, Z2x, Nat.reduceAdd, Nat.reduceLT, Nat.reduceLeDiff, Z2y, Z2z, Z30, Z31, Z32, Z33, Z34, Z35, Z36, Z37, Z38, Z39, m60, b4, c4, ld8e, s_cell8 hones5 rfl]
  have K5 := K4.set (cs' := [.int .i64 x.num, .int .i64 a', .int .i64 b', .string t', vk', vl', .bool x.has, .string x.data]) 1 rfl
  refine ⟨[.int .i64 x.num, .int .i64 a', .int .i64 b', .string t', vk', vl', .bool x.has, .string x.data], F, ?_, by trivial⟩
  have o6 := own_item (K5.ow 2 rfl)
  exact K5.ext.stOwn o6 (K5.fresh (i := 2) rfl)
theorem c64 {h : CH} {S : Nat → Prop} {cs : List Value} {x : IT} (hs : Rd h S (encI x) cs) (hS : ∀ n, S n → n < h.size) (ho : okI x) : callW Try.prog 64 [.agg cs.toArray] h fun r h' => ∃ cs' F, St h [] [.ow (encI x) cs' F] h' ∧ r = .agg cs'.toArray := by
  refine callW_of (wf _) Try.func64 m64_ok (by simp [m64]) ?_
  have hones := hs.ones
  obtain ⟨a, b, t, vk, vl, rfl, hb⟩ := hs.item
  simp -dsimp -implicitDefEqProofs (disch := omega) only [Z00, Z01, Z02, Z03, Z04, Z05, Z06, Z07, Z08, Z09, Z0a, Z0b, Z0c, Z0d, Z0e, Z0f, Z0g, Z0h, Z0i, Z0j, Z0k, Z2b, Z2c, Z0m, Z0n, Z0o, Z0p, Z0q, Z0r, Z0s, Z0t, Z0u, Z0v, Z0w, Z0x, Z0y, Z0z, Z10, Z11, Z12, Z13, Z14, Z15, Z16, Z17, Z18, Z19, ↓reduceIte, Nat.reduceEqDiff, Z1a, Z1b, Z1c, Z1d, Z1e, Z1f, Z1g, Z1h, Z1i, Z1j, Z1k, Z1l, Z1m, Z1n, Z1o, Z1p, Z1q, Z1r, Z1s, Z1t, Z1u, Z1v, Z1w, Z1x, Z1y, Z1z, Z20, Z21, Z22, Z23, Z24, Z25, Z26, Z27, Z28, Z29, Z2a, Z2d, retK, resC, resV, Z2h, Z2i, Z2j, Z2k, Z2l, Z2m, Z2n, Z2o, Z2p, Z2q, Z2r, Z2s, Z2t, Z2u, Z2v, Z2w, Z2x, Nat.reduceAdd, Nat.reduceLT, Nat.reduceLeDiff, Z2y, Z2z, Z30, Z31, Z32, Z33, Z34, Z35, Z36, Z37, Z38, Z39, m64]
  rw [s_box hones]
  have K1 := (St.nil h).box (cs := [.int .i64 x.num, .int .i64 a, .int .i64 b, .string t, vk, vl, .bool x.has, .string x.data]) (k := 8) (p := false)
  have z1 : (h.push (.cells [.int .i64 x.num, .int .i64 a, .int .i64 b, .string t, vk, vl, .bool x.has, .string x.data] 8 false true)).size = h.size + 1 := rfl
  revert K1 z1
  generalize h.push (.cells [.int .i64 x.num, .int .i64 a, .int .i64 b, .string t, vk, vl, .bool x.has, .string x.data] 8 false true) = h1
  intro K1 z1
  simp -dsimp -implicitDefEqProofs (disch := omega) only [Z00, Z01, Z02, Z03, Z04, Z05, Z06, Z07, Z08, Z09, Z0a, Z0b, Z0c, Z0d, Z0e, Z0f, Z0g, Z0h, Z0i, Z0j, Z0k, Z2b, Z2c, Z0m, Z0n, Z0o, Z0p, Z0q, Z0r, Z0s, Z0t, Z0u, Z0v, Z0w, Z0x, Z0y, Z0z, Z10, Z11, Z12, Z13, Z14, Z15, Z16, Z17, Z18, Z19, ↓reduceIte, Nat.reduceEqDiff, Z1a, Z1b, Z1c, Z1d, Z1e, Z1f, Z1g, Z1h, Z1i, Z1j, Z1k, Z1l, Z1m, Z1n, Z1o, Z1p, Z1q, Z1r, Z1s, Z1t, Z1u, Z1v, Z1w, Z1x, Z1y, Z1z, Z20, Z21, Z22, Z23, Z24, Z25, Z26, Z27, Z28, Z29, Z2a, Z2d, retK, resC, resV, Z2h, Z2i, Z2j, Z2k, Z2l, Z2m, Z2n, Z2o, Z2p, Z2q, Z2r, Z2s, Z2t, Z2u, Z2v, Z2w, Z2x, Nat.reduceAdd, Nat.reduceLT, Nat.reduceLeDiff, Z2y, Z2z, Z30, Z31, Z32, Z33, Z34, Z35, Z36, Z37, Z38, Z39, m64]
  have K2 := K1.box (cs := [.int .i64 0, .int .i64 0, .int .i64 0, .string ⟨#[]⟩, .slice none 0 0, .slice none 0 0, .bool false, .string ⟨#[]⟩]) (k := 8) (p := false)
  have z2 : (h1.push (.cells [.int .i64 0, .int .i64 0, .int .i64 0, .string ⟨#[]⟩, .slice none 0 0, .slice none 0 0, .bool false, .string ⟨#[]⟩] 8 false true)).size = h1.size + 1 := rfl
  revert K2 z2
  generalize h1.push (.cells [.int .i64 0, .int .i64 0, .int .i64 0, .string ⟨#[]⟩, .slice none 0 0, .slice none 0 0, .bool false, .string ⟨#[]⟩] 8 false true) = h2
  intro K2 z2
  have b1 := K2.bx 0 rfl
  have hS0 : Safe S h [] := Safe.of hS
  simp -dsimp -implicitDefEqProofs (disch := omega) only [Z00, Z01, Z02, Z03, Z04, Z05, Z06, Z07, Z08, Z09, Z0a, Z0b, Z0c, Z0d, Z0e, Z0f, Z0g, Z0h, Z0i, Z0j, Z0k, Z2b, Z2c, Z0m, Z0n, Z0o, Z0p, Z0q, Z0r, Z0s, Z0t, Z0u, Z0v, Z0w, Z0x, Z0y, Z0z, Z10, Z11, Z12, Z13, Z14, Z15, Z16, Z17, Z18, Z19, ↓reduceIte, Nat.reduceEqDiff, Z1a, Z1b, Z1c, Z1d, Z1e, Z1f, Z1g, Z1h, Z1i, Z1j, Z1k, Z1l, Z1m, Z1n, Z1o, Z1p, Z1q, Z1r, Z1s, Z1t, Z1u, Z1v, Z1w, Z1x, Z1y, Z1z, Z20, Z21, Z22, Z23, Z24, Z25, Z26, Z27, Z28, Z29, Z2a, Z2d, retK, resC, resV, Z2h, Z2i, Z2j, Z2k, Z2l, Z2m, Z2n, Z2o, Z2p, Z2q, Z2r, Z2s, Z2t, Z2u, Z2v, Z2w, Z2x, Nat.reduceAdd, Nat.reduceLT, Nat.reduceLeDiff, Z2y, Z2z, Z30, Z31, Z32, Z33, Z34, Z35, Z36, Z37, Z38, Z39, m64, b1, ld15]
  refine callT_of (c36 x.body h2 S _ (K2.rd hb hS0) (K2.safe0 hS0).lt ho.2.1) ?_
  rintro r h3 - ⟨ext3, cs', F, rfl, own3, fr3⟩
  have K3 := K2.go (ext3.stOwn own3 fr3)
  have hl : cs'.length = 5 := own3.len.trans (wid_obj _)
  have hone3 := own3.rd.ones
  have b3 := K3.bx 0 rfl
  have c3 := K3.bx 1 rfl
  obtain ⟨a', b', t', vk', vl', rfl⟩ : ∃ a' b' t' vk' vl', cs' = [.int .i64 a', .int .i64 b', .string t', vk', vl'] := by
    have g := own3.rd
    cases hx : x.body
    rw [hx] at g
    obtain ⟨_, _, e, _⟩ := g.obj
    exact ⟨_, _, _, _, _, e⟩
  simp -dsimp -implicitDefEqProofs (disch := omega) only [Z00, Z01, Z02, Z03, Z04, Z05, Z06, Z07, Z08, Z09, Z0a, Z0b, Z0c, Z0d, Z0e, Z0f, Z0g, Z0h, Z0i, Z0j, Z0k, Z2b, Z2c, Z0m, Z0n, Z0o, Z0p, Z0q, Z0r, Z0s, Z0t, Z0u, Z0v, Z0w, Z0x, Z0y, Z0z, Z10, Z11, Z12, Z13, Z14, Z15, Z16, Z17, Z18, Z19, ↓reduceIte, Nat.reduceEqDiff, Z1a, Z1b, Z1c, Z1d, Z1e, Z1f, Z1g, Z1h, Z1i, Z1j, Z1k, Z1l, Z1m, Z1n, Z1o, Z1p, Z1q, Z1r, Z1s, Z1t, Z1u, Z1v, Z1w, Z1x, Z1y, Z1z, Z20, Z21, Z22, Z23, Z24, Z25, Z26, Z27, Z28, Z29, Z2a, Z2d, retK, resC, resV, Z2h, Z2i, Z2j, Z2k, Z2l, Z2m, Z2n, Z2o, Z2p, Z2q, Z2r, Z2s, Z2t, Z2u, Z2v, Z2w, Z2x, Nat.reduceAdd, Nat.reduceLT, Nat.reduceLeDiff, Z2y, Z2z, Z30, Z31, Z32, Z33, Z34, Z35, Z36, Z37, Z38, Z39, m64, b3, st_body hone3 hl]
  have K4 := K3.set (cs' := [.int .i64 x.num, .int .i64 a', .int .i64 b', .string t', vk', vl', .bool x.has, .string x.data]) 0 rfl
  revert K4
  generalize h3.set h.size (.cells [.int .i64 x.num, .int .i64 a', .int .i64 b', .string t', vk', vl', .bool x.has, .string x.data] 8 false true) = h4
  intro K4
  have b4 := K4.bx 0 rfl
  have c4 := K4.bx 1 rfl
  have o4 := K4.ow 2 rfl
  have o5 := own_item o4
  have hones5 := o5.rd.ones
  simp -dsimp -implicitDefEqProofs (disch := omega) only [Z00, Z01, Z02, Z03, Z04, Z05, Z06, Z07, Z08, Z09, Z0a, Z0b, Z0c, Z0d, Z0e, Z0f, Z0g, Z0h, Z0i, Z0j, Z0k, Z2b, Z2c, Z0m, Z0n, Z0o, Z0p, Z0q, Z0r, Z0s, Z0t, Z0u, Z0v, Z0w, Z0x, Z0y, Z0z, Z10, Z11, Z12, Z13, Z14, Z15, Z16, Z17, Z18, Z19, ↓reduceIte, Nat.reduceEqDiff, Z1a, Z1b, Z1c, Z1d, Z1e, Z1f, Z1g, Z1h, Z1i, Z1j, Z1k, Z1l, Z1m, Z1n, Z1o, Z1p, Z1q, Z1r, Z1s, Z1t, Z1u, Z1v, Z1w, Z1x, Z1y, Z1z, Z20, Z21, Z22, Z23, Z24, Z25, Z26, Z27, Z28, Z29, Z2a, Z2d, retK, resC, resV, Z2h, Z2i, Z2j, Z2k, Z2l, Z2m, Z2n, Z2o, Z2p, Z2q, Z2r, Z2s, Z2t, Z2u, Z2v, Z2w, Z2x, Nat.reduceAdd, Nat.reduceLT, Nat.reduceLeDiff, Z2y, Z2z, Z30, Z31, Z32, Z33, Z34, Z35, Z36, Z37, Z38, Z39, m64, b4, c4, ld8e, s_cell8 hones5 rfl]
  have K5 := K4.set (cs' := [.int .i64 x.num, .int .i64 a', .int .i64 b', .string t', vk', vl', .bool x.has, .string x.data]) 1 rfl
  refine ⟨[.int .i64 x.num, .int .i64 a', .int .i64 b', .string t', vk', vl', .bool x.has, .string x.data], F, ?_, by trivial⟩
  have o6 := own_item (K5.ow 2 rfl)
  exact K5.ext.stOwn o6 (K5.fresh (i := 2) rfl)

/-! ### The program's tests -/
theorem c88 {h : CH} {S : Nat → Prop} {cs : List Value} {x : IT} (hs : Rd h S (encI x) cs) (hS : ∀ n, S n → n < h.size) (ho : okI x) : callW Try.prog 88 [.agg cs.toArray] h fun r h' => Ext h h' ∧ r = .bool (itemB x) := by
  refine callW_of (wf _) Try.func88 m88_ok (by simp [m88]) ?_
  have hones := hs.ones
  obtain ⟨a, b, t, vk, vl, rfl, hb⟩ := hs.item
  simp -dsimp -implicitDefEqProofs (disch := omega) only [Z00, Z01, Z02, Z03, Z04, Z05, Z06, Z07, Z08, Z09, Z0a, Z0b, Z0c, Z0d, Z0e, Z0f, Z0g, Z0h, Z0i, Z0j, Z0k, Z2b, Z2c, Z0m, Z0n, Z0o, Z0p, Z0q, Z0r, Z0s, Z0t, Z0u, Z0v, Z0w, Z0x, Z0y, Z0z, Z10, Z11, Z12, Z13, Z14, Z15, Z16, Z17, Z18, Z19, ↓reduceIte, Nat.reduceEqDiff, Z1a, Z1b, Z1c, Z1d, Z1e, Z1f, Z1g, Z1h, Z1i, Z1j, Z1k, Z1l, Z1m, Z1n, Z1o, Z1p, Z1q, Z1r, Z1s, Z1t, Z1u, Z1v, Z1w, Z1x, Z1y, Z1z, Z20, Z21, Z22, Z23, Z24, Z25, Z26, Z27, Z28, Z29, Z2a, Z2d, retK, resC, resV, Z2h, Z2i, Z2j, Z2k, Z2l, Z2m, Z2n, Z2o, Z2p, Z2q, Z2r, Z2s, Z2t, Z2u, Z2v, Z2w, Z2x, Nat.reduceAdd, Nat.reduceLT, Nat.reduceLeDiff, Z2y, Z2z, Z30, Z31, Z32, Z33, Z34, Z35, Z36, Z37, Z38, Z39, m88_1, m88_2, m88]
  rw [s_box hones]
  have K1 := (St.nil h).box (cs := [.int .i64 x.num, .int .i64 a, .int .i64 b, .string t, vk, vl, .bool x.has, .string x.data]) (k := 8) (p := false)
  revert K1
  generalize h.push (.cells [.int .i64 x.num, .int .i64 a, .int .i64 b, .string t, vk, vl, .bool x.has, .string x.data] 8 false true) = h1
  intro K1
  have b1 := K1.bx 0 rfl
  have hS0 : Safe S h [] := Safe.of hS
  simp -dsimp -implicitDefEqProofs (disch := omega) only [Z00, Z01, Z02, Z03, Z04, Z05, Z06, Z07, Z08, Z09, Z0a, Z0b, Z0c, Z0d, Z0e, Z0f, Z0g, Z0h, Z0i, Z0j, Z0k, Z2b, Z2c, Z0m, Z0n, Z0o, Z0p, Z0q, Z0r, Z0s, Z0t, Z0u, Z0v, Z0w, Z0x, Z0y, Z0z, Z10, Z11, Z12, Z13, Z14, Z15, Z16, Z17, Z18, Z19, ↓reduceIte, Nat.reduceEqDiff, Z1a, Z1b, Z1c, Z1d, Z1e, Z1f, Z1g, Z1h, Z1i, Z1j, Z1k, Z1l, Z1m, Z1n, Z1o, Z1p, Z1q, Z1r, Z1s, Z1t, Z1u, Z1v, Z1w, Z1x, Z1y, Z1z, Z20, Z21, Z22, Z23, Z24, Z25, Z26, Z27, Z28, Z29, Z2a, Z2d, retK, resC, resV, Z2h, Z2i, Z2j, Z2k, Z2l, Z2m, Z2n, Z2o, Z2p, Z2q, Z2r, Z2s, Z2t, Z2u, Z2v, Z2w, Z2x, Nat.reduceAdd, Nat.reduceLT, Nat.reduceLeDiff, Z2y, Z2z, Z30, Z31, Z32, Z33, Z34, Z35, Z36, Z37, Z38, Z39, m88_1, m88_2, m88, b1]
  refine callT_pure c94 ?_
  cases hn : inB x.num 1 99
  · simp -dsimp -implicitDefEqProofs (disch := omega) only [Z00, Z01, Z02, Z03, Z04, Z05, Z06, Z07, Z08, Z09, Z0a, Z0b, Z0c, Z0d, Z0e, Z0f, Z0g, Z0h, Z0i, Z0j, Z0k, Z2b, Z2c, Z0m, Z0n, Z0o, Z0p, Z0q, Z0r, Z0s, Z0t, Z0u, Z0v, Z0w, Z0x, Z0y, Z0z, Z10, Z11, Z12, Z13, Z14, Z15, Z16, Z17, Z18, Z19, ↓reduceIte, Nat.reduceEqDiff, Z1a, Z1b, Z1c, Z1d, Z1e, Z1f, Z1g, Z1h, Z1i, Z1j, Z1k, Z1l, Z1m, Z1n, Z1o, Z1p, Z1q, Z1r, Z1s, Z1t, Z1u, Z1v, Z1w, Z1x, Z1y, Z1z, Z20, Z21, Z22, Z23, Z24, Z25, Z26, Z27, Z28, Z29, Z2a, Z2d, retK, resC, resV, Z2h, Z2i, Z2j, Z2k, Z2l, Z2m, Z2n, Z2o, Z2p, Z2q, Z2r, Z2s, Z2t, Z2u, Z2v, Z2w, Z2x, Nat.reduceAdd, Nat.reduceLT, Nat.reduceLeDiff, Z2y, Z2z, Z30, Z31, Z32, Z33, Z34, Z35, Z36, Z37, Z38, Z39, m88_1, m88_2, m88, hn]
    exact ⟨K1.ext, by simp [itemB, hn]⟩
  simp -dsimp -implicitDefEqProofs (disch := omega) only [Z00, Z01, Z02, Z03, Z04, Z05, Z06, Z07, Z08, Z09, Z0a, Z0b, Z0c, Z0d, Z0e, Z0f, Z0g, Z0h, Z0i, Z0j, Z0k, Z2b, Z2c, Z0m, Z0n, Z0o, Z0p, Z0q, Z0r, Z0s, Z0t, Z0u, Z0v, Z0w, Z0x, Z0y, Z0z, Z10, Z11, Z12, Z13, Z14, Z15, Z16, Z17, Z18, Z19, ↓reduceIte, Nat.reduceEqDiff, Z1a, Z1b, Z1c, Z1d, Z1e, Z1f, Z1g, Z1h, Z1i, Z1j, Z1k, Z1l, Z1m, Z1n, Z1o, Z1p, Z1q, Z1r, Z1s, Z1t, Z1u, Z1v, Z1w, Z1x, Z1y, Z1z, Z20, Z21, Z22, Z23, Z24, Z25, Z26, Z27, Z28, Z29, Z2a, Z2d, retK, resC, resV, Z2h, Z2i, Z2j, Z2k, Z2l, Z2m, Z2n, Z2o, Z2p, Z2q, Z2r, Z2s, Z2t, Z2u, Z2v, Z2w, Z2x, Nat.reduceAdd, Nat.reduceLT, Nat.reduceLeDiff, Z2y, Z2z, Z30, Z31, Z32, Z33, Z34, Z35, Z36, Z37, Z38, Z39, m88_1, m88_2, m88, hn, b1, ld15]
  refine callT_of (c19 (K1.rd hb hS0) (K1.safe0 hS0).lt ho.1) ?_
  rintro r h2 - ⟨ext2, rfl⟩
  have K2 := K1.go0 ext2.st
  have b2 := K2.bx 0 rfl
  cases hk : okB x.body
  · simp -dsimp -implicitDefEqProofs (disch := omega) only [Z00, Z01, Z02, Z03, Z04, Z05, Z06, Z07, Z08, Z09, Z0a, Z0b, Z0c, Z0d, Z0e, Z0f, Z0g, Z0h, Z0i, Z0j, Z0k, Z2b, Z2c, Z0m, Z0n, Z0o, Z0p, Z0q, Z0r, Z0s, Z0t, Z0u, Z0v, Z0w, Z0x, Z0y, Z0z, Z10, Z11, Z12, Z13, Z14, Z15, Z16, Z17, Z18, Z19, ↓reduceIte, Nat.reduceEqDiff, Z1a, Z1b, Z1c, Z1d, Z1e, Z1f, Z1g, Z1h, Z1i, Z1j, Z1k, Z1l, Z1m, Z1n, Z1o, Z1p, Z1q, Z1r, Z1s, Z1t, Z1u, Z1v, Z1w, Z1x, Z1y, Z1z, Z20, Z21, Z22, Z23, Z24, Z25, Z26, Z27, Z28, Z29, Z2a, Z2d, retK, resC, resV, Z2h, Z2i, Z2j, Z2k, Z2l, Z2m, Z2n, Z2o, Z2p, Z2q, Z2r, Z2s, Z2t, Z2u, Z2v, Z2w, Z2x, Nat.reduceAdd, Nat.reduceLT, Nat.reduceLeDiff, Z2y, Z2z, Z30, Z31, Z32, Z33, Z34, Z35, Z36, Z37, Z38, Z39, m88_1, m88_2, m88, hk]
    exact ⟨K2.ext, by simp [itemB, hk]⟩
  simp -dsimp -implicitDefEqProofs (disch := omega) only [Z00, Z01, Z02, Z03, Z04, Z05, Z06, Z07, Z08, Z09, Z0a, Z0b, Z0c, Z0d, Z0e, Z0f, Z0g, Z0h, Z0i, Z0j, Z0k, Z2b, Z2c, Z0m, Z0n, Z0o, Z0p, Z0q, Z0r, Z0s, Z0t, Z0u, Z0v, Z0w, Z0x, Z0y, Z0z, Z10, Z11, Z12, Z13, Z14, Z15, Z16, Z17, Z18, Z19, ↓reduceIte, Nat.reduceEqDiff, Z1a, Z1b, Z1c, Z1d, Z1e, Z1f, Z1g, Z1h, Z1i, Z1j, Z1k, Z1l, Z1m, Z1n, Z1o, Z1p, Z1q, Z1r, Z1s, Z1t, Z1u, Z1v, Z1w, Z1x, Z1y, Z1z, Z20, Z21, Z22, Z23, Z24, Z25, Z26, Z27, Z28, Z29, Z2a, Z2d, retK, resC, resV, Z2h, Z2i, Z2j, Z2k, Z2l, Z2m, Z2n, Z2o, Z2p, Z2q, Z2r, Z2s, Z2t, Z2u, Z2v, Z2w, Z2x, Nat.reduceAdd, Nat.reduceLT, Nat.reduceLeDiff, Z2y, Z2z, Z30, Z31, Z32, Z33, Z34, Z35, Z36, Z37, Z38, Z39, m88_1, m88_2, m88, hk, b2, ld15]
  cases hh : x.has
  · simp -dsimp -implicitDefEqProofs (disch := omega) only [Z00, Z01, Z02, Z03, Z04, Z05, Z06, Z07, Z08, Z09, Z0a, Z0b, Z0c, Z0d, Z0e, Z0f, Z0g, Z0h, Z0i, Z0j, Z0k, Z2b, Z2c, Z0m, Z0n, Z0o, Z0p, Z0q, Z0r, Z0s, Z0t, Z0u, Z0v, Z0w, Z0x, Z0y, Z0z, Z10, Z11, Z12, Z13, Z14, Z15, Z16, Z17, Z18, Z19, ↓reduceIte, Nat.reduceEqDiff, Z1a, Z1b, Z1c, Z1d, Z1e, Z1f, Z1g, Z1h, Z1i, Z1j, Z1k, Z1l, Z1m, Z1n, Z1o, Z1p, Z1q, Z1r, Z1s, Z1t, Z1u, Z1v, Z1w, Z1x, Z1y, Z1z, Z20, Z21, Z22, Z23, Z24, Z25, Z26, Z27, Z28, Z29, Z2a, Z2d, retK, resC, resV, Z2h, Z2i, Z2j, Z2k, Z2l, Z2m, Z2n, Z2o, Z2p, Z2q, Z2r, Z2s, Z2t, Z2u, Z2v, Z2w, Z2x, Nat.reduceAdd, Nat.reduceLT, Nat.reduceLeDiff, Z2y, Z2z, Z30, Z31, Z32, Z33, Z34, Z35, Z36, Z37, Z38, Z39, m88_1, m88_2, m88, b2]
    exact ⟨K2.ext, by simp [itemB, hn, hk, hh]⟩
  simp -dsimp -implicitDefEqProofs (disch := omega) only [Z00, Z01, Z02, Z03, Z04, Z05, Z06, Z07, Z08, Z09, Z0a, Z0b, Z0c, Z0d, Z0e, Z0f, Z0g, Z0h, Z0i, Z0j, Z0k, Z2b, Z2c, Z0m, Z0n, Z0o, Z0p, Z0q, Z0r, Z0s, Z0t, Z0u, Z0v, Z0w, Z0x, Z0y, Z0z, Z10, Z11, Z12, Z13, Z14, Z15, Z16, Z17, Z18, Z19, ↓reduceIte, Nat.reduceEqDiff, Z1a, Z1b, Z1c, Z1d, Z1e, Z1f, Z1g, Z1h, Z1i, Z1j, Z1k, Z1l, Z1m, Z1n, Z1o, Z1p, Z1q, Z1r, Z1s, Z1t, Z1u, Z1v, Z1w, Z1x, Z1y, Z1z, Z20, Z21, Z22, Z23, Z24, Z25, Z26, Z27, Z28, Z29, Z2a, Z2d, retK, resC, resV, Z2h, Z2i, Z2j, Z2k, Z2l, Z2m, Z2n, Z2o, Z2p, Z2q, Z2r, Z2s, Z2t, Z2u, Z2v, Z2w, Z2x, Nat.reduceAdd, Nat.reduceLT, Nat.reduceLeDiff, Z2y, Z2z, Z30, Z31, Z32, Z33, Z34, Z35, Z36, Z37, Z38, Z39, m88_1, m88_2, m88, b2, ld15]
  refine callT_of (c10 (K2.rd hb hS0) (K2.safe0 hS0).lt ho.2.1) ?_
  rintro r h3 - ⟨ext3, cs', F, rfl, own, fr⟩
  have K3 := K2.go (ext3.stOwn own fr)
  have hl : cs'.length = 5 := own.len.trans (wid_obj _)
  obtain ⟨a', b', t', ks', kd', eo⟩ : ∃ a' b' t' ks' kd', (entO x.body keyLen).1 = .mk a' b' t' ks' kd' := by
    cases he : (entO x.body keyLen).1; exact ⟨_, _, _, _, _, rfl⟩
  have own' := own.rd
  have ek : entO x.body ⟨#[76, 101, 110, 103, 116, 104]⟩ = entO x.body keyLen := rfl
  rw [ek] at own' ⊢
  rw [eo] at own'
  have hones2 := own'.ones
  obtain ⟨vk', vl', rfl, _, _⟩ := own'.obj
  simp -dsimp -implicitDefEqProofs (disch := omega) only [Z00, Z01, Z02, Z03, Z04, Z05, Z06, Z07, Z08, Z09, Z0a, Z0b, Z0c, Z0d, Z0e, Z0f, Z0g, Z0h, Z0i, Z0j, Z0k, Z2b, Z2c, Z0m, Z0n, Z0o, Z0p, Z0q, Z0r, Z0s, Z0t, Z0u, Z0v, Z0w, Z0x, Z0y, Z0z, Z10, Z11, Z12, Z13, Z14, Z15, Z16, Z17, Z18, Z19, ↓reduceIte, Nat.reduceEqDiff, Z1a, Z1b, Z1c, Z1d, Z1e, Z1f, Z1g, Z1h, Z1i, Z1j, Z1k, Z1l, Z1m, Z1n, Z1o, Z1p, Z1q, Z1r, Z1s, Z1t, Z1u, Z1v, Z1w, Z1x, Z1y, Z1z, Z20, Z21, Z22, Z23, Z24, Z25, Z26, Z27, Z28, Z29, Z2a, Z2d, retK, resC, resV, Z2h, Z2i, Z2j, Z2k, Z2l, Z2m, Z2n, Z2o, Z2p, Z2q, Z2r, Z2s, Z2t, Z2u, Z2v, Z2w, Z2x, Nat.reduceAdd, Nat.reduceLT, Nat.reduceLeDiff, Z2y, Z2z, Z30, Z31, Z32, Z33, Z34, Z35, Z36, Z37, Z38, Z39, m88_1, m88_2, m88, s_cell hones2 hl]
  have e3 : Ext h3 _ := Ext.cell (h := h3) (z := [.int .i64 0, .int .i64 0, .string ⟨#[]⟩, .slice none 0 0, .slice none 0 0]) (x := [.int .i64 a', .int .i64 b', .string t', vk', vl']) (k := 5)
  have K4 := K3.go0 e3.st
  have b4 := K4.bx 0 rfl
  have fin := K4.ext
  have hlen : lenB x.body = if (entO x.body keyLen).2 = true ∧ a' = 4 then b' else -1 := by simp only [lenB, eo, kindOf, numOf]
  cases hok : (entO x.body keyLen).2
  · simp -dsimp -implicitDefEqProofs (disch := omega) only [Z00, Z01, Z02, Z03, Z04, Z05, Z06, Z07, Z08, Z09, Z0a, Z0b, Z0c, Z0d, Z0e, Z0f, Z0g, Z0h, Z0i, Z0j, Z0k, Z2b, Z2c, Z0m, Z0n, Z0o, Z0p, Z0q, Z0r, Z0s, Z0t, Z0u, Z0v, Z0w, Z0x, Z0y, Z0z, Z10, Z11, Z12, Z13, Z14, Z15, Z16, Z17, Z18, Z19, ↓reduceIte, Nat.reduceEqDiff, Z1a, Z1b, Z1c, Z1d, Z1e, Z1f, Z1g, Z1h, Z1i, Z1j, Z1k, Z1l, Z1m, Z1n, Z1o, Z1p, Z1q, Z1r, Z1s, Z1t, Z1u, Z1v, Z1w, Z1x, Z1y, Z1z, Z20, Z21, Z22, Z23, Z24, Z25, Z26, Z27, Z28, Z29, Z2a, Z2d, retK, resC, resV, Z2h, Z2i, Z2j, Z2k, Z2l, Z2m, Z2n, Z2o, Z2p, Z2q, Z2r, Z2s, Z2t, Z2u, Z2v, Z2w, Z2x, Nat.reduceAdd, Nat.reduceLT, Nat.reduceLeDiff, Z2y, Z2z, Z30, Z31, Z32, Z33, Z34, Z35, Z36, Z37, Z38, Z39, m88_1, m88_2, m88]
    refine ⟨fin, ?_⟩
    have : ¬ lenB x.body = x.data.size := by rw [hlen, hok]; simp
    simp [itemB, hh, this]
  have hk8 := kind_of_ent hok
  by_cases h4 : a' = 4
  · subst h4
    have d4 : ((4 : Int) == 4) = true := rfl
    simp -dsimp -implicitDefEqProofs (disch := omega) only [Z00, Z01, Z02, Z03, Z04, Z05, Z06, Z07, Z08, Z09, Z0a, Z0b, Z0c, Z0d, Z0e, Z0f, Z0g, Z0h, Z0i, Z0j, Z0k, Z2b, Z2c, Z0m, Z0n, Z0o, Z0p, Z0q, Z0r, Z0s, Z0t, Z0u, Z0v, Z0w, Z0x, Z0y, Z0z, Z10, Z11, Z12, Z13, Z14, Z15, Z16, Z17, Z18, Z19, ↓reduceIte, Nat.reduceEqDiff, Z1a, Z1b, Z1c, Z1d, Z1e, Z1f, Z1g, Z1h, Z1i, Z1j, Z1k, Z1l, Z1m, Z1n, Z1o, Z1p, Z1q, Z1r, Z1s, Z1t, Z1u, Z1v, Z1w, Z1x, Z1y, Z1z, Z20, Z21, Z22, Z23, Z24, Z25, Z26, Z27, Z28, Z29, Z2a, Z2d, retK, resC, resV, Z2h, Z2i, Z2j, Z2k, Z2l, Z2m, Z2n, Z2o, Z2p, Z2q, Z2r, Z2s, Z2t, Z2u, Z2v, Z2w, Z2x, Nat.reduceAdd, Nat.reduceLT, Nat.reduceLeDiff, Z2y, Z2z, Z30, Z31, Z32, Z33, Z34, Z35, Z36, Z37, Z38, Z39, m88_1, m88_2, m88, d4, b4]
    refine ⟨fin, ?_⟩
    have : lenB x.body = b' := by rw [hlen, hok]; simp
    congr 1
    rw [Bool.eq_iff_iff, beq_iff_eq]
    simp [itemB, hn, hk, hh, hk8, this]
  · have d4 : (a' == 4) = false := by simpa using h4
    simp -dsimp -implicitDefEqProofs (disch := omega) only [Z00, Z01, Z02, Z03, Z04, Z05, Z06, Z07, Z08, Z09, Z0a, Z0b, Z0c, Z0d, Z0e, Z0f, Z0g, Z0h, Z0i, Z0j, Z0k, Z2b, Z2c, Z0m, Z0n, Z0o, Z0p, Z0q, Z0r, Z0s, Z0t, Z0u, Z0v, Z0w, Z0x, Z0y, Z0z, Z10, Z11, Z12, Z13, Z14, Z15, Z16, Z17, Z18, Z19, ↓reduceIte, Nat.reduceEqDiff, Z1a, Z1b, Z1c, Z1d, Z1e, Z1f, Z1g, Z1h, Z1i, Z1j, Z1k, Z1l, Z1m, Z1n, Z1o, Z1p, Z1q, Z1r, Z1s, Z1t, Z1u, Z1v, Z1w, Z1x, Z1y, Z1z, Z20, Z21, Z22, Z23, Z24, Z25, Z26, Z27, Z28, Z29, Z2a, Z2d, retK, resC, resV, Z2h, Z2i, Z2j, Z2k, Z2l, Z2m, Z2n, Z2o, Z2p, Z2q, Z2r, Z2s, Z2t, Z2u, Z2v, Z2w, Z2x, Nat.reduceAdd, Nat.reduceLT, Nat.reduceLeDiff, Z2y, Z2z, Z30, Z31, Z32, Z33, Z34, Z35, Z36, Z37, Z38, Z39, m88_1, m88_2, m88, d4]
    refine ⟨fin, ?_⟩
    have : ¬ lenB x.body = x.data.size := by rw [hlen]; simp [h4]
    simp [itemB, hh, this]

theorem c87 {h : CH} {S : Nat → Prop} {cs : List Value} {x : IT} {n : Nat} {num : Int} {k : Nat} {p q : Bool} (hs : Rd h S (encI x) cs) (hS : ∀ n, S n → n < h.size) (hn : n < h.size) (hat : h.at_ n = .cells [.int .i64 num] k p q) :
    callW Try.prog 87 [.agg cs.toArray, .pointer (some ⟨n, 0, none⟩)] h fun r h' => Ext h h' ∧ r = .bool (decide (x.num = num)) := by
  refine callW_of (wf _) Try.func87 m87_ok (by simp [m87]) ?_
  have hones := hs.ones
  obtain ⟨a, b, t, vk, vl, rfl, hb⟩ := hs.item
  simp -dsimp -implicitDefEqProofs (disch := omega) only [Z00, Z01, Z02, Z03, Z04, Z05, Z06, Z07, Z08, Z09, Z0a, Z0b, Z0c, Z0d, Z0e, Z0f, Z0g, Z0h, Z0i, Z0j, Z0k, Z2b, Z2c, Z0m, Z0n, Z0o, Z0p, Z0q, Z0r, Z0s, Z0t, Z0u, Z0v, Z0w, Z0x, Z0y, Z0z, Z10, Z11, Z12, Z13, Z14, Z15, Z16, Z17, Z18, Z19, ↓reduceIte, Nat.reduceEqDiff, Z1a, Z1b, Z1c, Z1d, Z1e, Z1f, Z1g, Z1h, Z1i, Z1j, Z1k, Z1l, Z1m, Z1n, Z1o, Z1p, Z1q, Z1r, Z1s, Z1t, Z1u, Z1v, Z1w, Z1x, Z1y, Z1z, Z20, Z21, Z22, Z23, Z24, Z25, Z26, Z27, Z28, Z29, Z2a, Z2d, retK, resC, resV, Z2h, Z2i, Z2j, Z2k, Z2l, Z2m, Z2n, Z2o, Z2p, Z2q, Z2r, Z2s, Z2t, Z2u, Z2v, Z2w, Z2x, Nat.reduceAdd, Nat.reduceLT, Nat.reduceLeDiff, Z2y, Z2z, Z30, Z31, Z32, Z33, Z34, Z35, Z36, Z37, Z38, Z39, m87]
  rw [s_box hones]
  have e1 : Ext h _ := Ext.push h (.cells [.int .i64 x.num, .int .i64 a, .int .i64 b, .string t, vk, vl, .bool x.has, .string x.data] 8 false true)
  have at1 := (e1.old n hn).trans hat
  simp -dsimp -implicitDefEqProofs (disch := omega) only [Z00, Z01, Z02, Z03, Z04, Z05, Z06, Z07, Z08, Z09, Z0a, Z0b, Z0c, Z0d, Z0e, Z0f, Z0g, Z0h, Z0i, Z0j, Z0k, Z2b, Z2c, Z0m, Z0n, Z0o, Z0p, Z0q, Z0r, Z0s, Z0t, Z0u, Z0v, Z0w, Z0x, Z0y, Z0z, Z10, Z11, Z12, Z13, Z14, Z15, Z16, Z17, Z18, Z19, ↓reduceIte, Nat.reduceEqDiff, Z1a, Z1b, Z1c, Z1d, Z1e, Z1f, Z1g, Z1h, Z1i, Z1j, Z1k, Z1l, Z1m, Z1n, Z1o, Z1p, Z1q, Z1r, Z1s, Z1t, Z1u, Z1v, Z1w, Z1x, Z1y, Z1z, Z20, Z21, Z22, Z23, Z24, Z25, Z26, Z27, Z28, Z29, Z2a, Z2d, retK, resC, resV, Z2h, Z2i, Z2j, Z2k, Z2l, Z2m, Z2n, Z2o, Z2p, Z2q, Z2r, Z2s, Z2t, Z2u, Z2v, Z2w, Z2x, Nat.reduceAdd, Nat.reduceLT, Nat.reduceLeDiff, Z2y, Z2z, Z30, Z31, Z32, Z33, Z34, Z35, Z36, Z37, Z38, Z39, m87, at1]
  refine ⟨e1, ?_⟩
  congr 1

theorem c86 {h : CH} {S : Nat → Prop} {v : Value} {xs : List IT} {n : Nat} {num : Int} {k : Nat} {p q : Bool} (hs : Rd h S (encIs xs) [v]) (hS : ∀ n, S n → n < h.size) (hb : xs.length ≤ 1048576) (hn : n < h.size) (hat : h.at_ n = .cells [.int .i64 num] k p q) :
    callW Try.prog 86 [v, .func (.func 87) #[] #[.pointer (some ⟨n, 0, none⟩)]] h fun r h' => Ext h h' ∧ r = .int .i64 (findI xs num 0) := by
  refine callW_of (wf _) Try.func86 m86_ok (by simp [m86]) ?_
  obtain ⟨av, cv, rfl⟩ := Rd.form hs
  simp only [List.length_map] at *
  simp -dsimp -implicitDefEqProofs (disch := omega) only [Z00, Z01, Z02, Z03, Z04, Z05, Z06, Z07, Z08, Z09, Z0a, Z0b, Z0c, Z0d, Z0e, Z0f, Z0g, Z0h, Z0i, Z0j, Z0k, Z2b, Z2c, Z0m, Z0n, Z0o, Z0p, Z0q, Z0r, Z0s, Z0t, Z0u, Z0v, Z0w, Z0x, Z0y, Z0z, Z10, Z11, Z12, Z13, Z14, Z15, Z16, Z17, Z18, Z19, ↓reduceIte, Nat.reduceEqDiff, Z1a, Z1b, Z1c, Z1d, Z1e, Z1f, Z1g, Z1h, Z1i, Z1j, Z1k, Z1l, Z1m, Z1n, Z1o, Z1p, Z1q, Z1r, Z1s, Z1t, Z1u, Z1v, Z1w, Z1x, Z1y, Z1z, Z20, Z21, Z22, Z23, Z24, Z25, Z26, Z27, Z28, Z29, Z2a, Z2d, retK, resC, resV, Z2h, Z2i, Z2j, Z2k, Z2l, Z2m, Z2n, Z2o, Z2p, Z2q, Z2r, Z2s, Z2t, Z2u, Z2v, Z2w, Z2x, Nat.reduceAdd, Nat.reduceLT, Nat.reduceLeDiff, Z2y, Z2z, Z30, Z31, Z32, Z33, Z34, Z35, Z36, Z37, Z38, Z39, m86_1, m86_2, m86_3, m86]
  refine loopT_of (wpC_loop (fun ρ h2 => ∃ i : Nat, Ext h h2 ∧ i ≤ xs.length ∧ ρ 0 = .slice av xs.length cv ∧ ρ 1 = .func (.func 87) #[] #[.pointer (some ⟨n, 0, none⟩)] ∧ ρ 7 = .int .i64 xs.length ∧ ρ 8 = .int .i64 i ∧ findI xs num 0 = findI xs num i) (fun ρ _ => xs.length - intOf (ρ 8)) ⟨0, Ext.refl _, Nat.zero_le _, ?_, ?_, ?_, ?_, rfl⟩ ?_)
  · simp -dsimp -implicitDefEqProofs (disch := omega) only [Z00, Z01, Z02, Z03, Z04, Z05, Z06, Z07, Z08, Z09, Z0a, Z0b, Z0c, Z0d, Z0e, Z0f, Z0g, Z0h, Z0i, Z0j, Z0k, Z2b, Z2c, Z0m, Z0n, Z0o, Z0p, Z0q, Z0r, Z0s, Z0t, Z0u, Z0v, Z0w, Z0x, Z0y, Z0z, Z10, Z11, Z12, Z13, Z14, Z15, Z16, Z17, Z18, Z19, ↓reduceIte, Nat.reduceEqDiff, Z1a, Z1b, Z1c, Z1d, Z1e, Z1f, Z1g, Z1h, Z1i, Z1j, Z1k, Z1l, Z1m, Z1n, Z1o, Z1p, Z1q, Z1r, Z1s, Z1t, Z1u, Z1v, Z1w, Z1x, Z1y, Z1z, Z20, Z21, Z22, Z23, Z24, Z25, Z26, Z27, Z28, Z29, Z2a, Z2d, retK, resC, resV, Z2h, Z2i, Z2j, Z2k, Z2l, Z2m, Z2n, Z2o, Z2p, Z2q, Z2r, Z2s, Z2t, Z2u, Z2v, Z2w, Z2x, Nat.reduceAdd, Nat.reduceLT, Nat.reduceLeDiff, Z2y, Z2z, Z30, Z31, Z32, Z33, Z34, Z35, Z36, Z37, Z38, Z39, m86_1, m86_2, m86_3, m86]
  · simp -dsimp -implicitDefEqProofs (disch := omega) only [Z00, Z01, Z02, Z03, Z04, Z05, Z06, Z07, Z08, Z09, Z0a, Z0b, Z0c, Z0d, Z0e, Z0f, Z0g, Z0h, Z0i, Z0j, Z0k, Z2b, Z2c, Z0m, Z0n, Z0o, Z0p, Z0q, Z0r, Z0s, Z0t, Z0u, Z0v, Z0w, Z0x, Z0y, Z0z, Z10, Z11, Z12, Z13, Z14, Z15, Z16, Z17, Z18, Z19, ↓reduceIte, Nat.reduceEqDiff, Z1a, Z1b, Z1c, Z1d, Z1e, Z1f, Z1g, Z1h, Z1i, Z1j, Z1k, Z1l, Z1m, Z1n, Z1o, Z1p, Z1q, Z1r, Z1s, Z1t, Z1u, Z1v, Z1w, Z1x, Z1y, Z1z, Z20, Z21, Z22, Z23, Z24, Z25, Z26, Z27, Z28, Z29, Z2a, Z2d, retK, resC, resV, Z2h, Z2i, Z2j, Z2k, Z2l, Z2m, Z2n, Z2o, Z2p, Z2q, Z2r, Z2s, Z2t, Z2u, Z2v, Z2w, Z2x, Nat.reduceAdd, Nat.reduceLT, Nat.reduceLeDiff, Z2y, Z2z, Z30, Z31, Z32, Z33, Z34, Z35, Z36, Z37, Z38, Z39, m86_1, m86_2, m86_3, m86]
  · simp -dsimp -implicitDefEqProofs (disch := omega) only [Z00, Z01, Z02, Z03, Z04, Z05, Z06, Z07, Z08, Z09, Z0a, Z0b, Z0c, Z0d, Z0e, Z0f, Z0g, Z0h, Z0i, Z0j, Z0k, Z2b, Z2c, Z0m, Z0n, Z0o, Z0p, Z0q, Z0r, Z0s, Z0t, Z0u, Z0v, Z0w, Z0x, Z0y, Z0z, Z10, Z11, Z12, Z13, Z14, Z15, Z16, Z17, Z18, Z19, ↓reduceIte, Nat.reduceEqDiff, Z1a, Z1b, Z1c, Z1d, Z1e, Z1f, Z1g, Z1h, Z1i, Z1j, Z1k, Z1l, Z1m, Z1n, Z1o, Z1p, Z1q, Z1r, Z1s, Z1t, Z1u, Z1v, Z1w, Z1x, Z1y, Z1z, Z20, Z21, Z22, Z23, Z24, Z25, Z26, Z27, Z28, Z29, Z2a, Z2d, retK, resC, resV, Z2h, Z2i, Z2j, Z2k, Z2l, Z2m, Z2n, Z2o, Z2p, Z2q, Z2r, Z2s, Z2t, Z2u, Z2v, Z2w, Z2x, Nat.reduceAdd, Nat.reduceLT, Nat.reduceLeDiff, Z2y, Z2z, Z30, Z31, Z32, Z33, Z34, Z35, Z36, Z37, Z38, Z39, m86_1, m86_2, m86_3, m86]
  · simp -dsimp -implicitDefEqProofs (disch := omega) only [Z00, Z01, Z02, Z03, Z04, Z05, Z06, Z07, Z08, Z09, Z0a, Z0b, Z0c, Z0d, Z0e, Z0f, Z0g, Z0h, Z0i, Z0j, Z0k, Z2b, Z2c, Z0m, Z0n, Z0o, Z0p, Z0q, Z0r, Z0s, Z0t, Z0u, Z0v, Z0w, Z0x, Z0y, Z0z, Z10, Z11, Z12, Z13, Z14, Z15, Z16, Z17, Z18, Z19, ↓reduceIte, Nat.reduceEqDiff, Z1a, Z1b, Z1c, Z1d, Z1e, Z1f, Z1g, Z1h, Z1i, Z1j, Z1k, Z1l, Z1m, Z1n, Z1o, Z1p, Z1q, Z1r, Z1s, Z1t, Z1u, Z1v, Z1w, Z1x, Z1y, Z1z, Z20, Z21, Z22, Z23, Z24, Z25, Z26, Z27, Z28, Z29, Z2a, Z2d, retK, resC, resV, Z2h, Z2i, Z2j, Z2k, Z2l, Z2m, Z2n, Z2o, Z2p, Z2q, Z2r, Z2s, Z2t, Z2u, Z2v, Z2w, Z2x, Nat.reduceAdd, Nat.reduceLT, Nat.reduceLeDiff, Z2y, Z2z, Z30, Z31, Z32, Z33, Z34, Z35, Z36, Z37, Z38, Z39, m86_1, m86_2, m86_3, m86]; rfl
  rintro ρ h2 ⟨i, ext2, hi, e0, e1, e7, e8, hf⟩
  by_cases hc : i < xs.length
  · have d1 : decide ((i : Int) < xs.length) = true := by simp; omega
    simp -dsimp -implicitDefEqProofs (disch := omega) only [Z00, Z01, Z02, Z03, Z04, Z05, Z06, Z07, Z08, Z09, Z0a, Z0b, Z0c, Z0d, Z0e, Z0f, Z0g, Z0h, Z0i, Z0j, Z0k, Z2b, Z2c, Z0m, Z0n, Z0o, Z0p, Z0q, Z0r, Z0s, Z0t, Z0u, Z0v, Z0w, Z0x, Z0y, Z0z, Z10, Z11, Z12, Z13, Z14, Z15, Z16, Z17, Z18, Z19, ↓reduceIte, Nat.reduceEqDiff, Z1a, Z1b, Z1c, Z1d, Z1e, Z1f, Z1g, Z1h, Z1i, Z1j, Z1k, Z1l, Z1m, Z1n, Z1o, Z1p, Z1q, Z1r, Z1s, Z1t, Z1u, Z1v, Z1w, Z1x, Z1y, Z1z, Z20, Z21, Z22, Z23, Z24, Z25, Z26, Z27, Z28, Z29, Z2a, Z2d, retK, resC, resV, Z2h, Z2i, Z2j, Z2k, Z2l, Z2m, Z2n, Z2o, Z2p, Z2q, Z2r, Z2s, Z2t, Z2u, Z2v, Z2w, Z2x, Nat.reduceAdd, Nat.reduceLT, Nat.reduceLeDiff, Z2y, Z2z, Z30, Z31, Z32, Z33, Z34, Z35, Z36, Z37, Z38, Z39, m86_1, m86_2, m86_3, m86, e0, e1, e7, e8, d1]
    refine r_item (hs.ext hS ext2) (by omega) (by omega) fun m o ci hm hr hcell ha hl => ?_
    simp only [Int.toNat_natCast] at hr
    have hs2 := ext2.size
    have at2 := (ext2.old n hn).trans hat
    simp -dsimp -implicitDefEqProofs (disch := omega) only [Z00, Z01, Z02, Z03, Z04, Z05, Z06, Z07, Z08, Z09, Z0a, Z0b, Z0c, Z0d, Z0e, Z0f, Z0g, Z0h, Z0i, Z0j, Z0k, Z2b, Z2c, Z0m, Z0n, Z0o, Z0p, Z0q, Z0r, Z0s, Z0t, Z0u, Z0v, Z0w, Z0x, Z0y, Z0z, Z10, Z11, Z12, Z13, Z14, Z15, Z16, Z17, Z18, Z19, ↓reduceIte, Nat.reduceEqDiff, Z1a, Z1b, Z1c, Z1d, Z1e, Z1f, Z1g, Z1h, Z1i, Z1j, Z1k, Z1l, Z1m, Z1n, Z1o, Z1p, Z1q, Z1r, Z1s, Z1t, Z1u, Z1v, Z1w, Z1x, Z1y, Z1z, Z20, Z21, Z22, Z23, Z24, Z25, Z26, Z27, Z28, Z29, Z2a, Z2d, retK, resC, resV, Z2h, Z2i, Z2j, Z2k, Z2l, Z2m, Z2n, Z2o, Z2p, Z2q, Z2r, Z2s, Z2t, Z2u, Z2v, Z2w, Z2x, Nat.reduceAdd, Nat.reduceLT, Nat.reduceLeDiff, Z2y, Z2z, Z30, Z31, Z32, Z33, Z34, Z35, Z36, Z37, Z38, Z39, m86_1, m86_2, m86_3, m86, e0, e1, e7, e8, d1, ha]
    refine callvT_of ⟨_, Try.func87, by decide, rfl⟩ (c87 hr (ext2.lt hS) (by omega) at2) ?_
    rintro r h3 - ⟨ext3, rfl⟩
    by_cases hq : (iat xs i).num = num
    · rw [find_here hc hq] at hf
      simp -dsimp -implicitDefEqProofs (disch := omega) only [Z00, Z01, Z02, Z03, Z04, Z05, Z06, Z07, Z08, Z09, Z0a, Z0b, Z0c, Z0d, Z0e, Z0f, Z0g, Z0h, Z0i, Z0j, Z0k, Z2b, Z2c, Z0m, Z0n, Z0o, Z0p, Z0q, Z0r, Z0s, Z0t, Z0u, Z0v, Z0w, Z0x, Z0y, Z0z, Z10, Z11, Z12, Z13, Z14, Z15, Z16, Z17, Z18, Z19, ↓reduceIte, Nat.reduceEqDiff, Z1a, Z1b, Z1c, Z1d, Z1e, Z1f, Z1g, Z1h, Z1i, Z1j, Z1k, Z1l, Z1m, Z1n, Z1o, Z1p, Z1q, Z1r, Z1s, Z1t, Z1u, Z1v, Z1w, Z1x, Z1y, Z1z, Z20, Z21, Z22, Z23, Z24, Z25, Z26, Z27, Z28, Z29, Z2a, Z2d, retK, resC, resV, Z2h, Z2i, Z2j, Z2k, Z2l, Z2m, Z2n, Z2o, Z2p, Z2q, Z2r, Z2s, Z2t, Z2u, Z2v, Z2w, Z2x, Nat.reduceAdd, Nat.reduceLT, Nat.reduceLeDiff, Z2y, Z2z, Z30, Z31, Z32, Z33, Z34, Z35, Z36, Z37, Z38, Z39, m86_1, m86_2, m86_3, m86, decide_eq_true hq, e0, e1, e7, e8]
      exact ⟨ext2.trans ext3, by rw [hf]⟩
    · rw [find_next hc hq] at hf
      simp -dsimp -implicitDefEqProofs (disch := omega) only [Z00, Z01, Z02, Z03, Z04, Z05, Z06, Z07, Z08, Z09, Z0a, Z0b, Z0c, Z0d, Z0e, Z0f, Z0g, Z0h, Z0i, Z0j, Z0k, Z2b, Z2c, Z0m, Z0n, Z0o, Z0p, Z0q, Z0r, Z0s, Z0t, Z0u, Z0v, Z0w, Z0x, Z0y, Z0z, Z10, Z11, Z12, Z13, Z14, Z15, Z16, Z17, Z18, Z19, ↓reduceIte, Nat.reduceEqDiff, Z1a, Z1b, Z1c, Z1d, Z1e, Z1f, Z1g, Z1h, Z1i, Z1j, Z1k, Z1l, Z1m, Z1n, Z1o, Z1p, Z1q, Z1r, Z1s, Z1t, Z1u, Z1v, Z1w, Z1x, Z1y, Z1z, Z20, Z21, Z22, Z23, Z24, Z25, Z26, Z27, Z28, Z29, Z2a, Z2d, retK, resC, resV, Z2h, Z2i, Z2j, Z2k, Z2l, Z2m, Z2n, Z2o, Z2p, Z2q, Z2r, Z2s, Z2t, Z2u, Z2v, Z2w, Z2x, Nat.reduceAdd, Nat.reduceLT, Nat.reduceLeDiff, Z2y, Z2z, Z30, Z31, Z32, Z33, Z34, Z35, Z36, Z37, Z38, Z39, m86_1, m86_2, m86_3, m86, decide_eq_false hq, e0, e1, e7, e8]
      exact ⟨⟨i + 1, ext2.trans ext3, by omega, by trivial, by trivial, by trivial, rfl, hf⟩, by simp only [intOf]; omega⟩
  · have d1 : decide ((i : Int) < xs.length) = false := by simp; omega
    rw [find_end hc] at hf
    simp -dsimp -implicitDefEqProofs (disch := omega) only [Z00, Z01, Z02, Z03, Z04, Z05, Z06, Z07, Z08, Z09, Z0a, Z0b, Z0c, Z0d, Z0e, Z0f, Z0g, Z0h, Z0i, Z0j, Z0k, Z2b, Z2c, Z0m, Z0n, Z0o, Z0p, Z0q, Z0r, Z0s, Z0t, Z0u, Z0v, Z0w, Z0x, Z0y, Z0z, Z10, Z11, Z12, Z13, Z14, Z15, Z16, Z17, Z18, Z19, ↓reduceIte, Nat.reduceEqDiff, Z1a, Z1b, Z1c, Z1d, Z1e, Z1f, Z1g, Z1h, Z1i, Z1j, Z1k, Z1l, Z1m, Z1n, Z1o, Z1p, Z1q, Z1r, Z1s, Z1t, Z1u, Z1v, Z1w, Z1x, Z1y, Z1z, Z20, Z21, Z22, Z23, Z24, Z25, Z26, Z27, Z28, Z29, Z2a, Z2d, retK, resC, resV, Z2h, Z2i, Z2j, Z2k, Z2l, Z2m, Z2n, Z2o, Z2p, Z2q, Z2r, Z2s, Z2t, Z2u, Z2v, Z2w, Z2x, Nat.reduceAdd, Nat.reduceLT, Nat.reduceLeDiff, Z2y, Z2z, Z30, Z31, Z32, Z33, Z34, Z35, Z36, Z37, Z38, Z39, m86_1, m86_2, m86_3, m86, e0, e1, e7, e8, d1]
    exact ⟨ext2, by rw [hf]⟩

theorem c62 {h : CH} {S : Nat → Prop} {cs : List Value} {xs : List IT} {root num : Int} (hs : Rd h S (encDoc xs root) cs) (hS : ∀ n, S n → n < h.size) (hb : xs.length ≤ 1048576) : callW Try.prog 62 [.agg cs.toArray, .int .i64 num] h fun r h' => Ext h h' ∧ r = .int .i64 (findI xs num 0) := by
  refine callW_of (wf _) Try.func62 m62_ok (by simp [m62]) ?_
  have hones := hs.ones
  obtain ⟨v, rfl, hv⟩ := hs.doc
  simp -dsimp -implicitDefEqProofs (disch := omega) only [Z00, Z01, Z02, Z03, Z04, Z05, Z06, Z07, Z08, Z09, Z0a, Z0b, Z0c, Z0d, Z0e, Z0f, Z0g, Z0h, Z0i, Z0j, Z0k, Z2b, Z2c, Z0m, Z0n, Z0o, Z0p, Z0q, Z0r, Z0s, Z0t, Z0u, Z0v, Z0w, Z0x, Z0y, Z0z, Z10, Z11, Z12, Z13, Z14, Z15, Z16, Z17, Z18, Z19, ↓reduceIte, Nat.reduceEqDiff, Z1a, Z1b, Z1c, Z1d, Z1e, Z1f, Z1g, Z1h, Z1i, Z1j, Z1k, Z1l, Z1m, Z1n, Z1o, Z1p, Z1q, Z1r, Z1s, Z1t, Z1u, Z1v, Z1w, Z1x, Z1y, Z1z, Z20, Z21, Z22, Z23, Z24, Z25, Z26, Z27, Z28, Z29, Z2a, Z2d, retK, resC, resV, Z2h, Z2i, Z2j, Z2k, Z2l, Z2m, Z2n, Z2o, Z2p, Z2q, Z2r, Z2s, Z2t, Z2u, Z2v, Z2w, Z2x, Nat.reduceAdd, Nat.reduceLT, Nat.reduceLeDiff, Z2y, Z2z, Z30, Z31, Z32, Z33, Z34, Z35, Z36, Z37, Z38, Z39, m62]
  rw [s_box hones]
  have K1 := (St.nil h).box (cs := [v, .int .i64 root]) (k := 2) (p := false)
  revert K1
  generalize h.push (.cells [v, .int .i64 root] 2 false true) = h1
  intro K1
  have K2 := K1.box (cs := [.int .i64 num]) (k := 1) (p := false)
  have hz : h1.size < (h1.push (.cells [.int .i64 num] 1 false true)).size := Nat.lt_succ_self _
  simp -dsimp -implicitDefEqProofs (disch := omega) only [Z00, Z01, Z02, Z03, Z04, Z05, Z06, Z07, Z08, Z09, Z0a, Z0b, Z0c, Z0d, Z0e, Z0f, Z0g, Z0h, Z0i, Z0j, Z0k, Z2b, Z2c, Z0m, Z0n, Z0o, Z0p, Z0q, Z0r, Z0s, Z0t, Z0u, Z0v, Z0w, Z0x, Z0y, Z0z, Z10, Z11, Z12, Z13, Z14, Z15, Z16, Z17, Z18, Z19, ↓reduceIte, Nat.reduceEqDiff, Z1a, Z1b, Z1c, Z1d, Z1e, Z1f, Z1g, Z1h, Z1i, Z1j, Z1k, Z1l, Z1m, Z1n, Z1o, Z1p, Z1q, Z1r, Z1s, Z1t, Z1u, Z1v, Z1w, Z1x, Z1y, Z1z, Z20, Z21, Z22, Z23, Z24, Z25, Z26, Z27, Z28, Z29, Z2a, Z2d, retK, resC, resV, Z2h, Z2i, Z2j, Z2k, Z2l, Z2m, Z2n, Z2o, Z2p, Z2q, Z2r, Z2s, Z2t, Z2u, Z2v, Z2w, Z2x, Nat.reduceAdd, Nat.reduceLT, Nat.reduceLeDiff, Z2y, Z2z, Z30, Z31, Z32, Z33, Z34, Z35, Z36, Z37, Z38, Z39, m62, s_box1 (x := .int .i64 num) (by rfl)]
  revert K2 hz
  generalize h1.push (.cells [.int .i64 num] 1 false true) = h2
  intro K2 hz
  have b1 := K2.bx 0 rfl
  have b2 := K2.bx 1 rfl
  have hS0 : Safe S h [] := Safe.of hS
  simp -dsimp -implicitDefEqProofs (disch := omega) only [Z00, Z01, Z02, Z03, Z04, Z05, Z06, Z07, Z08, Z09, Z0a, Z0b, Z0c, Z0d, Z0e, Z0f, Z0g, Z0h, Z0i, Z0j, Z0k, Z2b, Z2c, Z0m, Z0n, Z0o, Z0p, Z0q, Z0r, Z0s, Z0t, Z0u, Z0v, Z0w, Z0x, Z0y, Z0z, Z10, Z11, Z12, Z13, Z14, Z15, Z16, Z17, Z18, Z19, ↓reduceIte, Nat.reduceEqDiff, Z1a, Z1b, Z1c, Z1d, Z1e, Z1f, Z1g, Z1h, Z1i, Z1j, Z1k, Z1l, Z1m, Z1n, Z1o, Z1p, Z1q, Z1r, Z1s, Z1t, Z1u, Z1v, Z1w, Z1x, Z1y, Z1z, Z20, Z21, Z22, Z23, Z24, Z25, Z26, Z27, Z28, Z29, Z2a, Z2d, retK, resC, resV, Z2h, Z2i, Z2j, Z2k, Z2l, Z2m, Z2n, Z2o, Z2p, Z2q, Z2r, Z2s, Z2t, Z2u, Z2v, Z2w, Z2x, Nat.reduceAdd, Nat.reduceLT, Nat.reduceLeDiff, Z2y, Z2z, Z30, Z31, Z32, Z33, Z34, Z35, Z36, Z37, Z38, Z39, m62, b1, s_mkF1]
  refine callT_of (c86 (K2.rd hv hS0) (K2.safe0 hS0).lt hb hz b2) ?_
  rintro r h3 - ⟨ext3, rfl⟩
  simp -dsimp -implicitDefEqProofs (disch := omega) only [Z00, Z01, Z02, Z03, Z04, Z05, Z06, Z07, Z08, Z09, Z0a, Z0b, Z0c, Z0d, Z0e, Z0f, Z0g, Z0h, Z0i, Z0j, Z0k, Z2b, Z2c, Z0m, Z0n, Z0o, Z0p, Z0q, Z0r, Z0s, Z0t, Z0u, Z0v, Z0w, Z0x, Z0y, Z0z, Z10, Z11, Z12, Z13, Z14, Z15, Z16, Z17, Z18, Z19, ↓reduceIte, Nat.reduceEqDiff, Z1a, Z1b, Z1c, Z1d, Z1e, Z1f, Z1g, Z1h, Z1i, Z1j, Z1k, Z1l, Z1m, Z1n, Z1o, Z1p, Z1q, Z1r, Z1s, Z1t, Z1u, Z1v, Z1w, Z1x, Z1y, Z1z, Z20, Z21, Z22, Z23, Z24, Z25, Z26, Z27, Z28, Z29, Z2a, Z2d, retK, resC, resV, Z2h, Z2i, Z2j, Z2k, Z2l, Z2m, Z2n, Z2o, Z2p, Z2q, Z2r, Z2s, Z2t, Z2u, Z2v, Z2w, Z2x, Nat.reduceAdd, Nat.reduceLT, Nat.reduceLeDiff, Z2y, Z2z, Z30, Z31, Z32, Z33, Z34, Z35, Z36, Z37, Z38, Z39, m62]
  exact ⟨K2.ext.trans ext3, trivial⟩

/-! ### Is a document right? -/
theorem c63 {h : CH} {S : Nat → Prop} {cs : List Value} {xs : List IT} {root : Int} (hs : Rd h S (encDoc xs root) cs) (hS : ∀ n, S n → n < h.size) (ho : okIs xs) : callW Try.prog 63 [.agg cs.toArray] h fun r h' => Ext h h' ∧ r = .bool (docB xs root) := by
  refine callW_of (wf _) Try.func63 m63_ok (by simp [m63]) ?_
  have hones := hs.ones
  have hs0 := hs
  have hlen : cs.length = 2 := hs.len.trans (by simp [encDoc, encIs, wid, wids])
  obtain ⟨v, rfl, hv⟩ := hs.doc
  obtain ⟨av, cv, rfl⟩ := Rd.form hv
  have hb := ho.1
  simp only [List.length_map] at *
  simp -dsimp -implicitDefEqProofs (disch := omega) only [Z00, Z01, Z02, Z03, Z04, Z05, Z06, Z07, Z08, Z09, Z0a, Z0b, Z0c, Z0d, Z0e, Z0f, Z0g, Z0h, Z0i, Z0j, Z0k, Z2b, Z2c, Z0m, Z0n, Z0o, Z0p, Z0q, Z0r, Z0s, Z0t, Z0u, Z0v, Z0w, Z0x, Z0y, Z0z, Z10, Z11, Z12, Z13, Z14, Z15, Z16, Z17, Z18, Z19, ↓reduceIte, Nat.reduceEqDiff, Z1a, Z1b, Z1c, Z1d, Z1e, Z1f, Z1g, Z1h, Z1i, Z1j, Z1k, Z1l, Z1m, Z1n, Z1o, Z1p, Z1q, Z1r, Z1s, Z1t, Z1u, Z1v, Z1w, Z1x, Z1y, Z1z, Z20, Z21, Z22, Z23, Z24, Z25, Z26, Z27, Z28, Z29, Z2a, Z2d, retK, resC, resV, Z2h, Z2i, Z2j, Z2k, Z2l, Z2m, Z2n, Z2o, Z2p, Z2q, Z2r, Z2s, Z2t, Z2u, Z2v, Z2w, Z2x, Nat.reduceAdd, Nat.reduceLT, Nat.reduceLeDiff, Z2y, Z2z, Z30, Z31, Z32, Z33, Z34, Z35, Z36, Z37, Z38, Z39, m63_1, m63_2, m63_3, m63]
  rw [s_box hones]
  have K1 := (St.nil h).box (cs := [.slice av xs.length cv, .int .i64 root]) (k := 2) (p := false)
  revert K1
  generalize h.push (.cells [.slice av xs.length cv, .int .i64 root] 2 false true) = h1
  intro K1
  have b1 := K1.bx 0 rfl
  have hS0 : Safe S h [] := Safe.of hS
  simp -dsimp -implicitDefEqProofs (disch := omega) only [Z00, Z01, Z02, Z03, Z04, Z05, Z06, Z07, Z08, Z09, Z0a, Z0b, Z0c, Z0d, Z0e, Z0f, Z0g, Z0h, Z0i, Z0j, Z0k, Z2b, Z2c, Z0m, Z0n, Z0o, Z0p, Z0q, Z0r, Z0s, Z0t, Z0u, Z0v, Z0w, Z0x, Z0y, Z0z, Z10, Z11, Z12, Z13, Z14, Z15, Z16, Z17, Z18, Z19, ↓reduceIte, Nat.reduceEqDiff, Z1a, Z1b, Z1c, Z1d, Z1e, Z1f, Z1g, Z1h, Z1i, Z1j, Z1k, Z1l, Z1m, Z1n, Z1o, Z1p, Z1q, Z1r, Z1s, Z1t, Z1u, Z1v, Z1w, Z1x, Z1y, Z1z, Z20, Z21, Z22, Z23, Z24, Z25, Z26, Z27, Z28, Z29, Z2a, Z2d, retK, resC, resV, Z2h, Z2i, Z2j, Z2k, Z2l, Z2m, Z2n, Z2o, Z2p, Z2q, Z2r, Z2s, Z2t, Z2u, Z2v, Z2w, Z2x, Nat.reduceAdd, Nat.reduceLT, Nat.reduceLeDiff, Z2y, Z2z, Z30, Z31, Z32, Z33, Z34, Z35, Z36, Z37, Z38, Z39, m63_1, m63_2, m63_3, m63, b1]
  refine loopT_of (wpC_loop (fun ρ h2 => ∃ i : Nat, St h [] [.bx h.size [.slice av xs.length cv, .int .i64 root] 2 false] h2 ∧ i ≤ xs.length ∧ ρ 1 = .pointer (some ⟨h.size, 0, none⟩) ∧ ρ 7 = .slice av xs.length cv ∧ ρ 8 = .int .i64 xs.length ∧ ρ 9 = .int .i64 i ∧ ∀ j, j < i → rowB xs j = true) (fun ρ _ => xs.length - intOf (ρ 9)) ⟨0, K1, Nat.zero_le _, ?_, ?_, ?_, ?_, by simp⟩ ?_)
  · simp -dsimp -implicitDefEqProofs (disch := omega) only [Z00, Z01, Z02, Z03, Z04, Z05, Z06, Z07, Z08, Z09, Z0a, Z0b, Z0c, Z0d, Z0e, Z0f, Z0g, Z0h, Z0i, Z0j, Z0k, Z2b, Z2c, Z0m, Z0n, Z0o, Z0p, Z0q, Z0r, Z0s, Z0t, Z0u, Z0v, Z0w, Z0x, Z0y, Z0z, Z10, Z11, Z12, Z13, Z14, Z15, Z16, Z17, Z18, Z19, ↓reduceIte, Nat.reduceEqDiff, Z1a, Z1b, Z1c, Z1d, Z1e, Z1f, Z1g, Z1h, Z1i, Z1j, Z1k, Z1l, Z1m, Z1n, Z1o, Z1p, Z1q, Z1r, Z1s, Z1t, Z1u, Z1v, Z1w, Z1x, Z1y, Z1z, Z20, Z21, Z22, Z23, Z24, Z25, Z26, Z27, Z28, Z29, Z2a, Z2d, retK, resC, resV, Z2h, Z2i, Z2j, Z2k, Z2l, Z2m, Z2n, Z2o, Z2p, Z2q, Z2r, Z2s, Z2t, Z2u, Z2v, Z2w, Z2x, Nat.reduceAdd, Nat.reduceLT, Nat.reduceLeDiff, Z2y, Z2z, Z30, Z31, Z32, Z33, Z34, Z35, Z36, Z37, Z38, Z39, m63_1, m63_2, m63_3, m63]
  · simp -dsimp -implicitDefEqProofs (disch := omega) only [Z00, Z01, Z02, Z03, Z04, Z05, Z06, Z07, Z08, Z09, Z0a, Z0b, Z0c, Z0d, Z0e, Z0f, Z0g, Z0h, Z0i, Z0j, Z0k, Z2b, Z2c, Z0m, Z0n, Z0o, Z0p, Z0q, Z0r, Z0s, Z0t, Z0u, Z0v, Z0w, Z0x, Z0y, Z0z, Z10, Z11, Z12, Z13, Z14, Z15, Z16, Z17, Z18, Z19, ↓reduceIte, Nat.reduceEqDiff, Z1a, Z1b, Z1c, Z1d, Z1e, Z1f, Z1g, Z1h, Z1i, Z1j, Z1k, Z1l, Z1m, Z1n, Z1o, Z1p, Z1q, Z1r, Z1s, Z1t, Z1u, Z1v, Z1w, Z1x, Z1y, Z1z, Z20, Z21, Z22, Z23, Z24, Z25, Z26, Z27, Z28, Z29, Z2a, Z2d, retK, resC, resV, Z2h, Z2i, Z2j, Z2k, Z2l, Z2m, Z2n, Z2o, Z2p, Z2q, Z2r, Z2s, Z2t, Z2u, Z2v, Z2w, Z2x, Nat.reduceAdd, Nat.reduceLT, Nat.reduceLeDiff, Z2y, Z2z, Z30, Z31, Z32, Z33, Z34, Z35, Z36, Z37, Z38, Z39, m63_1, m63_2, m63_3, m63]
  · simp -dsimp -implicitDefEqProofs (disch := omega) only [Z00, Z01, Z02, Z03, Z04, Z05, Z06, Z07, Z08, Z09, Z0a, Z0b, Z0c, Z0d, Z0e, Z0f, Z0g, Z0h, Z0i, Z0j, Z0k, Z2b, Z2c, Z0m, Z0n, Z0o, Z0p, Z0q, Z0r, Z0s, Z0t, Z0u, Z0v, Z0w, Z0x, Z0y, Z0z, Z10, Z11, Z12, Z13, Z14, Z15, Z16, Z17, Z18, Z19, ↓reduceIte, Nat.reduceEqDiff, Z1a, Z1b, Z1c, Z1d, Z1e, Z1f, Z1g, Z1h, Z1i, Z1j, Z1k, Z1l, Z1m, Z1n, Z1o, Z1p, Z1q, Z1r, Z1s, Z1t, Z1u, Z1v, Z1w, Z1x, Z1y, Z1z, Z20, Z21, Z22, Z23, Z24, Z25, Z26, Z27, Z28, Z29, Z2a, Z2d, retK, resC, resV, Z2h, Z2i, Z2j, Z2k, Z2l, Z2m, Z2n, Z2o, Z2p, Z2q, Z2r, Z2s, Z2t, Z2u, Z2v, Z2w, Z2x, Nat.reduceAdd, Nat.reduceLT, Nat.reduceLeDiff, Z2y, Z2z, Z30, Z31, Z32, Z33, Z34, Z35, Z36, Z37, Z38, Z39, m63_1, m63_2, m63_3, m63]
  · simp -dsimp -implicitDefEqProofs (disch := omega) only [Z00, Z01, Z02, Z03, Z04, Z05, Z06, Z07, Z08, Z09, Z0a, Z0b, Z0c, Z0d, Z0e, Z0f, Z0g, Z0h, Z0i, Z0j, Z0k, Z2b, Z2c, Z0m, Z0n, Z0o, Z0p, Z0q, Z0r, Z0s, Z0t, Z0u, Z0v, Z0w, Z0x, Z0y, Z0z, Z10, Z11, Z12, Z13, Z14, Z15, Z16, Z17, Z18, Z19, ↓reduceIte, Nat.reduceEqDiff, Z1a, Z1b, Z1c, Z1d, Z1e, Z1f, Z1g, Z1h, Z1i, Z1j, Z1k, Z1l, Z1m, Z1n, Z1o, Z1p, Z1q, Z1r, Z1s, Z1t, Z1u, Z1v, Z1w, Z1x, Z1y, Z1z, Z20, Z21, Z22, Z23, Z24, Z25, Z26, Z27, Z28, Z29, Z2a, Z2d, retK, resC, resV, Z2h, Z2i, Z2j, Z2k, Z2l, Z2m, Z2n, Z2o, Z2p, Z2q, Z2r, Z2s, Z2t, Z2u, Z2v, Z2w, Z2x, Nat.reduceAdd, Nat.reduceLT, Nat.reduceLeDiff, Z2y, Z2z, Z30, Z31, Z32, Z33, Z34, Z35, Z36, Z37, Z38, Z39, m63_1, m63_2, m63_3, m63]; rfl
  rintro ρ h2 ⟨i, K2, hi, e1, e7, e8, e9, hall⟩
  have b2 := K2.bx 0 rfl
  by_cases hc : i < xs.length
  · have d1 : decide ((i : Int) < xs.length) = true := by simp; omega
    have hoi := iat_ok hc ho
    simp -dsimp -implicitDefEqProofs (disch := omega) only [Z00, Z01, Z02, Z03, Z04, Z05, Z06, Z07, Z08, Z09, Z0a, Z0b, Z0c, Z0d, Z0e, Z0f, Z0g, Z0h, Z0i, Z0j, Z0k, Z2b, Z2c, Z0m, Z0n, Z0o, Z0p, Z0q, Z0r, Z0s, Z0t, Z0u, Z0v, Z0w, Z0x, Z0y, Z0z, Z10, Z11, Z12, Z13, Z14, Z15, Z16, Z17, Z18, Z19, ↓reduceIte, Nat.reduceEqDiff, Z1a, Z1b, Z1c, Z1d, Z1e, Z1f, Z1g, Z1h, Z1i, Z1j, Z1k, Z1l, Z1m, Z1n, Z1o, Z1p, Z1q, Z1r, Z1s, Z1t, Z1u, Z1v, Z1w, Z1x, Z1y, Z1z, Z20, Z21, Z22, Z23, Z24, Z25, Z26, Z27, Z28, Z29, Z2a, Z2d, retK, resC, resV, Z2h, Z2i, Z2j, Z2k, Z2l, Z2m, Z2n, Z2o, Z2p, Z2q, Z2r, Z2s, Z2t, Z2u, Z2v, Z2w, Z2x, Nat.reduceAdd, Nat.reduceLT, Nat.reduceLeDiff, Z2y, Z2z, Z30, Z31, Z32, Z33, Z34, Z35, Z36, Z37, Z38, Z39, m63_1, m63_2, m63_3, m63, e1, e7, e8, e9, b2, d1]
    refine r_item (K2.rd hv hS0) (by omega) (by omega) fun m o ci hm hr hcell ha hl => ?_
    simp only [Int.toNat_natCast] at hr
    have hoc := hr.ones
    obtain ⟨a, b, t, vk, vl, rfl, _⟩ := hr.item
    simp -dsimp -implicitDefEqProofs (disch := omega) only [Z00, Z01, Z02, Z03, Z04, Z05, Z06, Z07, Z08, Z09, Z0a, Z0b, Z0c, Z0d, Z0e, Z0f, Z0g, Z0h, Z0i, Z0j, Z0k, Z2b, Z2c, Z0m, Z0n, Z0o, Z0p, Z0q, Z0r, Z0s, Z0t, Z0u, Z0v, Z0w, Z0x, Z0y, Z0z, Z10, Z11, Z12, Z13, Z14, Z15, Z16, Z17, Z18, Z19, ↓reduceIte, Nat.reduceEqDiff, Z1a, Z1b, Z1c, Z1d, Z1e, Z1f, Z1g, Z1h, Z1i, Z1j, Z1k, Z1l, Z1m, Z1n, Z1o, Z1p, Z1q, Z1r, Z1s, Z1t, Z1u, Z1v, Z1w, Z1x, Z1y, Z1z, Z20, Z21, Z22, Z23, Z24, Z25, Z26, Z27, Z28, Z29, Z2a, Z2d, retK, resC, resV, Z2h, Z2i, Z2j, Z2k, Z2l, Z2m, Z2n, Z2o, Z2p, Z2q, Z2r, Z2s, Z2t, Z2u, Z2v, Z2w, Z2x, Nat.reduceAdd, Nat.reduceLT, Nat.reduceLeDiff, Z2y, Z2z, Z30, Z31, Z32, Z33, Z34, Z35, Z36, Z37, Z38, Z39, m63_1, m63_2, m63_3, m63, e1, e7, e8, e9, b2, d1, ha, s_cell8 hoc rfl, ld8e]
    have K3 := (K2.box (cs := [.int .i64 0, .int .i64 0, .int .i64 0, .string ⟨#[]⟩, .slice none 0 0, .slice none 0 0, .bool false, .string ⟨#[]⟩]) (k := 8) (p := false)).set (cs' := [.int .i64 (iat xs i).num, .int .i64 a, .int .i64 b, .string t, vk, vl, .bool (iat xs i).has, .string (iat xs i).data]) 1 rfl
    have x3 := Ext.cell (h := h2) (z := [.int .i64 0, .int .i64 0, .int .i64 0, .string ⟨#[]⟩, .slice none 0 0, .slice none 0 0, .bool false, .string ⟨#[]⟩]) (x := [.int .i64 (iat xs i).num, .int .i64 a, .int .i64 b, .string t, vk, vl, .bool (iat xs i).has, .string (iat xs i).data]) (k := 8)
    revert K3 x3
    generalize (h2.push (.cells [.int .i64 0, .int .i64 0, .int .i64 0, .string ⟨#[]⟩, .slice none 0 0, .slice none 0 0, .bool false, .string ⟨#[]⟩] 8 false true)).set h2.size (.cells [.int .i64 (iat xs i).num, .int .i64 a, .int .i64 b, .string t, vk, vl, .bool (iat xs i).has, .string (iat xs i).data] 8 false true) = h3
    intro K3 x3
    refine callT_of (c88 (hr.ext (K2.safe0 hS0).lt x3) (K3.safe0 hS0).lt hoi) ?_
    rintro r h4 - ⟨ext4, rfl⟩
    have K4 := K3.go0 ext4.st
    have b4 := K4.bx 0 rfl
    have c4 := K4.bx 1 rfl
    have K4' := K4.sub (.cons_cons _ (.cons _ .slnil)) (T' := [.bx h.size [.slice av xs.length cv, .int .i64 root] 2 false])
    cases hp : itemB (iat xs i)
    · simp -dsimp -implicitDefEqProofs (disch := omega) only [Z00, Z01, Z02, Z03, Z04, Z05, Z06, Z07, Z08, Z09, Z0a, Z0b, Z0c, Z0d, Z0e, Z0f, Z0g, Z0h, Z0i, Z0j, Z0k, Z2b, Z2c, Z0m, Z0n, Z0o, Z0p, Z0q, Z0r, Z0s, Z0t, Z0u, Z0v, Z0w, Z0x, Z0y, Z0z, Z10, Z11, Z12, Z13, Z14, Z15, Z16, Z17, Z18, Z19, ↓reduceIte, Nat.reduceEqDiff, Z1a, Z1b, Z1c, Z1d, Z1e, Z1f, Z1g, Z1h, Z1i, Z1j, Z1k, Z1l, Z1m, Z1n, Z1o, Z1p, Z1q, Z1r, Z1s, Z1t, Z1u, Z1v, Z1w, Z1x, Z1y, Z1z, Z20, Z21, Z22, Z23, Z24, Z25, Z26, Z27, Z28, Z29, Z2a, Z2d, retK, resC, resV, Z2h, Z2i, Z2j, Z2k, Z2l, Z2m, Z2n, Z2o, Z2p, Z2q, Z2r, Z2s, Z2t, Z2u, Z2v, Z2w, Z2x, Nat.reduceAdd, Nat.reduceLT, Nat.reduceLeDiff, Z2y, Z2z, Z30, Z31, Z32, Z33, Z34, Z35, Z36, Z37, Z38, Z39, m63_1, m63_2, m63_3, m63, hp]
      exact ⟨K4.ext, by rw [docB_bad hc (by simp [rowB, hp])]⟩
    by_cases h0 : i = 0
    · subst h0
      have d3 : decide (((0 : Nat) : Int) > 0) = false := by simp
      simp -dsimp -implicitDefEqProofs (disch := omega) only [Z00, Z01, Z02, Z03, Z04, Z05, Z06, Z07, Z08, Z09, Z0a, Z0b, Z0c, Z0d, Z0e, Z0f, Z0g, Z0h, Z0i, Z0j, Z0k, Z2b, Z2c, Z0m, Z0n, Z0o, Z0p, Z0q, Z0r, Z0s, Z0t, Z0u, Z0v, Z0w, Z0x, Z0y, Z0z, Z10, Z11, Z12, Z13, Z14, Z15, Z16, Z17, Z18, Z19, ↓reduceIte, Nat.reduceEqDiff, Z1a, Z1b, Z1c, Z1d, Z1e, Z1f, Z1g, Z1h, Z1i, Z1j, Z1k, Z1l, Z1m, Z1n, Z1o, Z1p, Z1q, Z1r, Z1s, Z1t, Z1u, Z1v, Z1w, Z1x, Z1y, Z1z, Z20, Z21, Z22, Z23, Z24, Z25, Z26, Z27, Z28, Z29, Z2a, Z2d, retK, resC, resV, Z2h, Z2i, Z2j, Z2k, Z2l, Z2m, Z2n, Z2o, Z2p, Z2q, Z2r, Z2s, Z2t, Z2u, Z2v, Z2w, Z2x, Nat.reduceAdd, Nat.reduceLT, Nat.reduceLeDiff, Z2y, Z2z, Z30, Z31, Z32, Z33, Z34, Z35, Z36, Z37, Z38, Z39, m63_1, m63_2, m63_3, m63, hp, e1, e7, e8, e9, d3]
      refine ⟨⟨1, K4', by omega, by trivial, by trivial, by trivial, rfl, lt_step hall ?_⟩, by simp only [intOf]; omega⟩
      simp [rowB, hp]
    · have d3 : decide ((i : Int) > 0) = true := by simp; omega
      simp -dsimp -implicitDefEqProofs (disch := omega) only [Z00, Z01, Z02, Z03, Z04, Z05, Z06, Z07, Z08, Z09, Z0a, Z0b, Z0c, Z0d, Z0e, Z0f, Z0g, Z0h, Z0i, Z0j, Z0k, Z2b, Z2c, Z0m, Z0n, Z0o, Z0p, Z0q, Z0r, Z0s, Z0t, Z0u, Z0v, Z0w, Z0x, Z0y, Z0z, Z10, Z11, Z12, Z13, Z14, Z15, Z16, Z17, Z18, Z19, ↓reduceIte, Nat.reduceEqDiff, Z1a, Z1b, Z1c, Z1d, Z1e, Z1f, Z1g, Z1h, Z1i, Z1j, Z1k, Z1l, Z1m, Z1n, Z1o, Z1p, Z1q, Z1r, Z1s, Z1t, Z1u, Z1v, Z1w, Z1x, Z1y, Z1z, Z20, Z21, Z22, Z23, Z24, Z25, Z26, Z27, Z28, Z29, Z2a, Z2d, retK, resC, resV, Z2h, Z2i, Z2j, Z2k, Z2l, Z2m, Z2n, Z2o, Z2p, Z2q, Z2r, Z2s, Z2t, Z2u, Z2v, Z2w, Z2x, Nat.reduceAdd, Nat.reduceLT, Nat.reduceLeDiff, Z2y, Z2z, Z30, Z31, Z32, Z33, Z34, Z35, Z36, Z37, Z38, Z39, m63_1, m63_2, m63_3, m63, hp, e1, e7, e8, e9, d3, b4]
      refine r_item (K4.rd hv hS0) (by omega) (by omega) fun m2 o2 ci2 hm2 hr2 hcell2 ha2 hl2 => ?_
      have e : ((i : Int) - 1).toNat = i - 1 := by omega
      rw [e] at hr2
      obtain ⟨a2, b2', t2, vk2, vl2, rfl, _⟩ := hr2.item
      have hc2 := hcell2 0 (by omega)
      simp only [Nat.add_zero, List.getElem?_cons_zero] at hc2
      by_cases hq : (iat xs (i - 1)).num < (iat xs i).num
      · have dq : decide ((iat xs (i - 1)).num ≥ (iat xs i).num) = false := by simp; omega
        simp -dsimp -implicitDefEqProofs (disch := omega) only [Z00, Z01, Z02, Z03, Z04, Z05, Z06, Z07, Z08, Z09, Z0a, Z0b, Z0c, Z0d, Z0e, Z0f, Z0g, Z0h, Z0i, Z0j, Z0k, Z2b, Z2c, Z0m, Z0n, Z0o, Z0p, Z0q, Z0r, Z0s, Z0t, Z0u, Z0v, Z0w, Z0x, Z0y, Z0z, Z10, Z11, Z12, Z13, Z14, Z15, Z16, Z17, Z18, Z19, ↓reduceIte, Nat.reduceEqDiff, Z1a, Z1b, Z1c, Z1d, Z1e, Z1f, Z1g, Z1h, Z1i, Z1j, Z1k, Z1l, Z1m, Z1n, Z1o, Z1p, Z1q, Z1r, Z1s, Z1t, Z1u, Z1v, Z1w, Z1x, Z1y, Z1z, Z20, Z21, Z22, Z23, Z24, Z25, Z26, Z27, Z28, Z29, Z2a, Z2d, retK, resC, resV, Z2h, Z2i, Z2j, Z2k, Z2l, Z2m, Z2n, Z2o, Z2p, Z2q, Z2r, Z2s, Z2t, Z2u, Z2v, Z2w, Z2x, Nat.reduceAdd, Nat.reduceLT, Nat.reduceLeDiff, Z2y, Z2z, Z30, Z31, Z32, Z33, Z34, Z35, Z36, Z37, Z38, Z39, m63_1, m63_2, m63_3, m63, hp, e1, e7, e8, e9, d3, b4, c4, hc2, dq]
        refine ⟨⟨i + 1, K4', by omega, by trivial, by trivial, by trivial, rfl, lt_step hall ?_⟩, by simp only [intOf]; omega⟩
        simp [rowB, hp, hq]
      · have dq : decide ((iat xs (i - 1)).num ≥ (iat xs i).num) = true := by simp; omega
        simp -dsimp -implicitDefEqProofs (disch := omega) only [Z00, Z01, Z02, Z03, Z04, Z05, Z06, Z07, Z08, Z09, Z0a, Z0b, Z0c, Z0d, Z0e, Z0f, Z0g, Z0h, Z0i, Z0j, Z0k, Z2b, Z2c, Z0m, Z0n, Z0o, Z0p, Z0q, Z0r, Z0s, Z0t, Z0u, Z0v, Z0w, Z0x, Z0y, Z0z, Z10, Z11, Z12, Z13, Z14, Z15, Z16, Z17, Z18, Z19, ↓reduceIte, Nat.reduceEqDiff, Z1a, Z1b, Z1c, Z1d, Z1e, Z1f, Z1g, Z1h, Z1i, Z1j, Z1k, Z1l, Z1m, Z1n, Z1o, Z1p, Z1q, Z1r, Z1s, Z1t, Z1u, Z1v, Z1w, Z1x, Z1y, Z1z, Z20, Z21, Z22, Z23, Z24, Z25, Z26, Z27, Z28, Z29, Z2a, Z2d, retK, resC, resV, Z2h, Z2i, Z2j, Z2k, Z2l, Z2m, Z2n, Z2o, Z2p, Z2q, Z2r, Z2s, Z2t, Z2u, Z2v, Z2w, Z2x, Nat.reduceAdd, Nat.reduceLT, Nat.reduceLeDiff, Z2y, Z2z, Z30, Z31, Z32, Z33, Z34, Z35, Z36, Z37, Z38, Z39, m63_1, m63_2, m63_3, m63, hp, e1, e7, e8, e9, d3, b4, c4, hc2, dq]
        exact ⟨K4.ext, by rw [docB_bad hc (by simp [rowB, hp, hq, h0])]⟩
  · have d1 : decide ((i : Int) < xs.length) = false := by simp; omega
    have : i = xs.length := by omega
    subst this
    simp -dsimp -implicitDefEqProofs (disch := omega) only [Z00, Z01, Z02, Z03, Z04, Z05, Z06, Z07, Z08, Z09, Z0a, Z0b, Z0c, Z0d, Z0e, Z0f, Z0g, Z0h, Z0i, Z0j, Z0k, Z2b, Z2c, Z0m, Z0n, Z0o, Z0p, Z0q, Z0r, Z0s, Z0t, Z0u, Z0v, Z0w, Z0x, Z0y, Z0z, Z10, Z11, Z12, Z13, Z14, Z15, Z16, Z17, Z18, Z19, ↓reduceIte, Nat.reduceEqDiff, Z1a, Z1b, Z1c, Z1d, Z1e, Z1f, Z1g, Z1h, Z1i, Z1j, Z1k, Z1l, Z1m, Z1n, Z1o, Z1p, Z1q, Z1r, Z1s, Z1t, Z1u, Z1v, Z1w, Z1x, Z1y, Z1z, Z20, Z21, Z22, Z23, Z24, Z25, Z26, Z27, Z28, Z29, Z2a, Z2d, retK, resC, resV, Z2h, Z2i, Z2j, Z2k, Z2l, Z2m, Z2n, Z2o, Z2p, Z2q, Z2r, Z2s, Z2t, Z2u, Z2v, Z2w, Z2x, Nat.reduceAdd, Nat.reduceLT, Nat.reduceLeDiff, Z2y, Z2z, Z30, Z31, Z32, Z33, Z34, Z35, Z36, Z37, Z38, Z39, m63_1, m63_2, m63_3, m63, e1, e7, e8, e9, b2, d1, ld2e]
    refine callT_of (c62 (K2.rd hs0 hS0) (K2.safe0 hS0).lt hb) ?_
    rintro r h3 - ⟨ext3, rfl⟩
    have K3 := K2.go0 ext3.st
    have b3 := K3.bx 0 rfl
    rw [docB_good hall]
    have fin := K3.ext
    by_cases h30 : xs.length ≤ 30
    · have d30 : decide ((xs.length : Int) ≤ 30) = true := by simp; omega
      by_cases hf : 0 ≤ findI xs root 0
      · have hfr : findI xs root 0 < xs.length := by
          rcases find_range xs root _ 0 rfl with e | e <;> omega
        have df : decide (findI xs root 0 ≥ 0) = true := by simpa using hf
        simp -dsimp -implicitDefEqProofs (disch := omega) only [Z00, Z01, Z02, Z03, Z04, Z05, Z06, Z07, Z08, Z09, Z0a, Z0b, Z0c, Z0d, Z0e, Z0f, Z0g, Z0h, Z0i, Z0j, Z0k, Z2b, Z2c, Z0m, Z0n, Z0o, Z0p, Z0q, Z0r, Z0s, Z0t, Z0u, Z0v, Z0w, Z0x, Z0y, Z0z, Z10, Z11, Z12, Z13, Z14, Z15, Z16, Z17, Z18, Z19, ↓reduceIte, Nat.reduceEqDiff, Z1a, Z1b, Z1c, Z1d, Z1e, Z1f, Z1g, Z1h, Z1i, Z1j, Z1k, Z1l, Z1m, Z1n, Z1o, Z1p, Z1q, Z1r, Z1s, Z1t, Z1u, Z1v, Z1w, Z1x, Z1y, Z1z, Z20, Z21, Z22, Z23, Z24, Z25, Z26, Z27, Z28, Z29, Z2a, Z2d, retK, resC, resV, Z2h, Z2i, Z2j, Z2k, Z2l, Z2m, Z2n, Z2o, Z2p, Z2q, Z2r, Z2s, Z2t, Z2u, Z2v, Z2w, Z2x, Nat.reduceAdd, Nat.reduceLT, Nat.reduceLeDiff, Z2y, Z2z, Z30, Z31, Z32, Z33, Z34, Z35, Z36, Z37, Z38, Z39, m63_1, m63_2, m63_3, m63, e1, b3, d30, df]
        refine r_item (K3.rd hv hS0) hf hfr fun m o ci hm hr hcell ha hl => ?_
        obtain ⟨a, b, t, vk, vl, rfl, hbo⟩ := hr.item
        have hc1 := hcell 1 (by omega)
        simp only [List.getElem?_cons_succ, List.getElem?_cons_zero] at hc1
        obtain ⟨ks, kd, eb⟩ := hbo.kind
        simp -dsimp -implicitDefEqProofs (disch := omega) only [Z00, Z01, Z02, Z03, Z04, Z05, Z06, Z07, Z08, Z09, Z0a, Z0b, Z0c, Z0d, Z0e, Z0f, Z0g, Z0h, Z0i, Z0j, Z0k, Z2b, Z2c, Z0m, Z0n, Z0o, Z0p, Z0q, Z0r, Z0s, Z0t, Z0u, Z0v, Z0w, Z0x, Z0y, Z0z, Z10, Z11, Z12, Z13, Z14, Z15, Z16, Z17, Z18, Z19, ↓reduceIte, Nat.reduceEqDiff, Z1a, Z1b, Z1c, Z1d, Z1e, Z1f, Z1g, Z1h, Z1i, Z1j, Z1k, Z1l, Z1m, Z1n, Z1o, Z1p, Z1q, Z1r, Z1s, Z1t, Z1u, Z1v, Z1w, Z1x, Z1y, Z1z, Z20, Z21, Z22, Z23, Z24, Z25, Z26, Z27, Z28, Z29, Z2a, Z2d, retK, resC, resV, Z2h, Z2i, Z2j, Z2k, Z2l, Z2m, Z2n, Z2o, Z2p, Z2q, Z2r, Z2s, Z2t, Z2u, Z2v, Z2w, Z2x, Nat.reduceAdd, Nat.reduceLT, Nat.reduceLeDiff, Z2y, Z2z, Z30, Z31, Z32, Z33, Z34, Z35, Z36, Z37, Z38, Z39, m63_1, m63_2, m63_3, m63, hc1]
        refine ⟨fin, ?_⟩
        simp only [h30, hf, eb, kindOf, decide_true, Bool.true_and]
        congr 1
      · have df : decide (findI xs root 0 ≥ 0) = false := by simpa using hf
        simp -dsimp -implicitDefEqProofs (disch := omega) only [Z00, Z01, Z02, Z03, Z04, Z05, Z06, Z07, Z08, Z09, Z0a, Z0b, Z0c, Z0d, Z0e, Z0f, Z0g, Z0h, Z0i, Z0j, Z0k, Z2b, Z2c, Z0m, Z0n, Z0o, Z0p, Z0q, Z0r, Z0s, Z0t, Z0u, Z0v, Z0w, Z0x, Z0y, Z0z, Z10, Z11, Z12, Z13, Z14, Z15, Z16, Z17, Z18, Z19, ↓reduceIte, Nat.reduceEqDiff, Z1a, Z1b, Z1c, Z1d, Z1e, Z1f, Z1g, Z1h, Z1i, Z1j, Z1k, Z1l, Z1m, Z1n, Z1o, Z1p, Z1q, Z1r, Z1s, Z1t, Z1u, Z1v, Z1w, Z1x, Z1y, Z1z, Z20, Z21, Z22, Z23, Z24, Z25, Z26, Z27, Z28, Z29, Z2a, Z2d, retK, resC, resV, Z2h, Z2i, Z2j, Z2k, Z2l, Z2m, Z2n, Z2o, Z2p, Z2q, Z2r, Z2s, Z2t, Z2u, Z2v, Z2w, Z2x, Nat.reduceAdd, Nat.reduceLT, Nat.reduceLeDiff, Z2y, Z2z, Z30, Z31, Z32, Z33, Z34, Z35, Z36, Z37, Z38, Z39, m63_1, m63_2, m63_3, m63, e1, b3, d30, df]
        exact ⟨fin, by simp [hf]⟩
    · have d30 : decide ((xs.length : Int) ≤ 30) = false := by simp; omega
      simp -dsimp -implicitDefEqProofs (disch := omega) only [Z00, Z01, Z02, Z03, Z04, Z05, Z06, Z07, Z08, Z09, Z0a, Z0b, Z0c, Z0d, Z0e, Z0f, Z0g, Z0h, Z0i, Z0j, Z0k, Z2b, Z2c, Z0m, Z0n, Z0o, Z0p, Z0q, Z0r, Z0s, Z0t, Z0u, Z0v, Z0w, Z0x, Z0y, Z0z, Z10, Z11, Z12, Z13, Z14, Z15, Z16, Z17, Z18, Z19, ↓reduceIte, Nat.reduceEqDiff, Z1a, Z1b, Z1c, Z1d, Z1e, Z1f, Z1g, Z1h, Z1i, Z1j, Z1k, Z1l, Z1m, Z1n, Z1o, Z1p, Z1q, Z1r, Z1s, Z1t, Z1u, Z1v, Z1w, Z1x, Z1y, Z1z, Z20, Z21, Z22, Z23, Z24, Z25, Z26, Z27, Z28, Z29, Z2a, Z2d, retK, resC, resV, Z2h, Z2i, Z2j, Z2k, Z2l, Z2m, Z2n, Z2o, Z2p, Z2q, Z2r, Z2s, Z2t, Z2u, Z2v, Z2w, Z2x, Nat.reduceAdd, Nat.reduceLT, Nat.reduceLeDiff, Z2y, Z2z, Z30, Z31, Z32, Z33, Z34, Z35, Z36, Z37, Z38, Z39, m63_1, m63_2, m63_3, m63, e1, b3, d30]
      exact ⟨fin, by simp [h30]⟩
end Go.Proofs.Ytdfmdclfnhgjiaa.Can

