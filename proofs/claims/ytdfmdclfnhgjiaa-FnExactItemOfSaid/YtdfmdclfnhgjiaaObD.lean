/- Objects of the documents: a copy that shares nothing.
   Conditions: those that each law names. -/
import Derived.Test.YtdfmdclfnhgjiaaObC
set_option linter.unusedVariables false
set_option linter.unusedSimpArgs false
namespace Go.Proofs.Ytdfmdclfnhgjiaa.Can
open Go

theorem encK_vals (ss : List ByteArray) : encK ss = .arr 1 ((ss.map Value.string).map .val) := by simp [encK, encT, Function.comp_def]
theorem str_ones : ∀ ss : List ByteArray, (ss.map Value.string).all one = true
  | [] => rfl
  | s :: r => by simp only [List.map_cons, List.all_cons, str_ones r]; rfl
theorem own_keys {h : CH} {n : Nat} {ss : List ByteArray} {c : List Value} {opn : Bool} {cap : Nat} (hat : h.at_ n = .cells c 1 opn true) (hc : c.length = cap) (hl : ss.length ≤ cap) (ht : c.take ss.length = ss.map Value.string) :
    Own h (encK ss) [.slice (some ⟨n, 0, none⟩) ss.length cap] [n] := by
  rw [encK_vals]
  simp only [Own]
  refine ⟨by simp [wid], .inr ⟨n, c, opn, cap, [], by simp, rfl, by simp, hat, by omega, by simp; omega, ?_⟩⟩
  simp only [List.length_map, Nat.mul_one, ht]
  exact Owns.vals (str_ones ss)

theorem c33 {h : CH} {S : Nat → Prop} {v : Value} {ss : List ByteArray} (hs : Rd h S (encK ss) [v]) (hS : ∀ n, S n → n < h.size) (hb : ss.length ≤ 1048576) :
    callW Try.prog 33 [v] h fun r h' => Ext h h' ∧ ∃ F, Own h' (encK ss) [r] F ∧ Fresh h h' F := by
  refine callW_of (wf _) Try.func33 m33_ok (by simp [m33]) ?_
  obtain ⟨a, cap, rfl, hel⟩ := hs.slice
  simp only [List.length_map] at hel ⊢
  simp -dsimp -implicitDefEqProofs only [Z00, Z01, Z02, Z03, Z04, Z05, Z06, Z07, Z08, Z09, Z0a, Z0b, Z0c, Z0d, Z0e, Z0f, Z0g, Z0h, Z0i, Z0j, Z0k, Z0l, Z0m, Z0n, Z0o, Z0p, Z0q, Z0r, Z0s, Z0t, Z0u, Z0v, Z0w, Z0x, Z0y, Z0z, Z10, Z11, Z12, Z13, Z14, Z15, Z16, Z17, Z18, Z19, ↓reduceIte, Nat.reduceEqDiff, Z1a, Z1b, Z1c, Z1d, Z1e, Z1f, Z1g, Z1h, Z1i, Z1j, Z1k, Z1l, Z1m, Z1n, Z1o, Z1p, Z1q, Z1r, Z1s, Z1t, Z1u, Z1v, Z1w, Z1x, Z1y, Z1z, Z20, Z21, Z22, Z23, Z24, Z25, Z26, Z27, Z28, Z29, Z2a, m33]
  rw [s_mks (by omega) (by omega) (by omega) (by omega)]
  simp only [Int.toNat_natCast]
  have ext1 : Ext h (h.push (.cells (List.replicate ss.length [Value.string ⟨#[]⟩]).flatten 1 false true)) := .push h _
  have at1 := push_new (h := h) (o := .cells (List.replicate ss.length [Value.string ⟨#[]⟩]).flatten 1 false true)
  have hsz : (h.push (.cells (List.replicate ss.length [Value.string ⟨#[]⟩]).flatten 1 false true)).size = h.size + 1 := rfl
  revert ext1 at1 hsz
  generalize h.push (.cells (List.replicate ss.length [Value.string ⟨#[]⟩]).flatten 1 false true) = h1
  intro ext1 at1 hsz
  simp -dsimp -implicitDefEqProofs only [Z00, Z01, Z02, Z03, Z04, Z05, Z06, Z07, Z08, Z09, Z0a, Z0b, Z0c, Z0d, Z0e, Z0f, Z0g, Z0h, Z0i, Z0j, Z0k, Z0l, Z0m, Z0n, Z0o, Z0p, Z0q, Z0r, Z0s, Z0t, Z0u, Z0v, Z0w, Z0x, Z0y, Z0z, Z10, Z11, Z12, Z13, Z14, Z15, Z16, Z17, Z18, Z19, ↓reduceIte, Nat.reduceEqDiff, Z1a, Z1b, Z1c, Z1d, Z1e, Z1f, Z1g, Z1h, Z1i, Z1j, Z1k, Z1l, Z1m, Z1n, Z1o, Z1p, Z1q, Z1r, Z1s, Z1t, Z1u, Z1v, Z1w, Z1x, Z1y, Z1z, Z20, Z21, Z22, Z23, Z24, Z25, Z26, Z27, Z28, Z29, Z2a]
  refine loopT_of (wpC_loop (fun ρ h2 => ∃ (i : Nat) (c : List Value), Ext h h2 ∧ h2.size = h.size + 1 ∧ h2.at_ h.size = .cells c 1 false true ∧ c.length = ss.length ∧ c.take i = (ss.take i).map Value.string ∧ i ≤ ss.length ∧ ρ 0 = .slice a ss.length cap ∧ ρ 3 = .slice (some ⟨h.size, 0, none⟩) ss.length ss.length ∧ ρ 4 = .int .i64 i)
      (fun ρ h1 => ss.length - intOf (ρ 4)) ⟨0, _, ext1, hsz, at1, by simp, by simp, Nat.zero_le _, ?_, ?_, ?_⟩ ?_)
  · simp -dsimp -implicitDefEqProofs only [Z00, Z01, Z02, Z03, Z04, Z05, Z06, Z07, Z08, Z09, Z0a, Z0b, Z0c, Z0d, Z0e, Z0f, Z0g, Z0h, Z0i, Z0j, Z0k, Z0l, Z0m, Z0n, Z0o, Z0p, Z0q, Z0r, Z0s, Z0t, Z0u, Z0v, Z0w, Z0x, Z0y, Z0z, Z10, Z11, Z12, Z13, Z14, Z15, Z16, Z17, Z18, Z19, ↓reduceIte, Nat.reduceEqDiff, Z1a, Z1b, Z1c, Z1d, Z1e, Z1f, Z1g, Z1h, Z1i, Z1j, Z1k, Z1l, Z1m, Z1n, Z1o, Z1p, Z1q, Z1r, Z1s, Z1t, Z1u, Z1v, Z1w, Z1x, Z1y, Z1z, Z20, Z21, Z22, Z23, Z24, Z25, Z26, Z27, Z28, Z29, Z2a]
  · simp -dsimp -implicitDefEqProofs only [Z00, Z01, Z02, Z03, Z04, Z05, Z06, Z07, Z08, Z09, Z0a, Z0b, Z0c, Z0d, Z0e, Z0f, Z0g, Z0h, Z0i, Z0j, Z0k, Z0l, Z0m, Z0n, Z0o, Z0p, Z0q, Z0r, Z0s, Z0t, Z0u, Z0v, Z0w, Z0x, Z0y, Z0z, Z10, Z11, Z12, Z13, Z14, Z15, Z16, Z17, Z18, Z19, ↓reduceIte, Nat.reduceEqDiff, Z1a, Z1b, Z1c, Z1d, Z1e, Z1f, Z1g, Z1h, Z1i, Z1j, Z1k, Z1l, Z1m, Z1n, Z1o, Z1p, Z1q, Z1r, Z1s, Z1t, Z1u, Z1v, Z1w, Z1x, Z1y, Z1z, Z20, Z21, Z22, Z23, Z24, Z25, Z26, Z27, Z28, Z29, Z2a]
  · simp -dsimp -implicitDefEqProofs only [Z00, Z01, Z02, Z03, Z04, Z05, Z06, Z07, Z08, Z09, Z0a, Z0b, Z0c, Z0d, Z0e, Z0f, Z0g, Z0h, Z0i, Z0j, Z0k, Z0l, Z0m, Z0n, Z0o, Z0p, Z0q, Z0r, Z0s, Z0t, Z0u, Z0v, Z0w, Z0x, Z0y, Z0z, Z10, Z11, Z12, Z13, Z14, Z15, Z16, Z17, Z18, Z19, ↓reduceIte, Nat.reduceEqDiff, Z1a, Z1b, Z1c, Z1d, Z1e, Z1f, Z1g, Z1h, Z1i, Z1j, Z1k, Z1l, Z1m, Z1n, Z1o, Z1p, Z1q, Z1r, Z1s, Z1t, Z1u, Z1v, Z1w, Z1x, Z1y, Z1z, Z20, Z21, Z22, Z23, Z24, Z25, Z26, Z27, Z28, Z29, Z2a]; rfl
  rintro ρ h2 ⟨i, c, hext, hsz2, hat2, hcl, hct, hi, e0, e3, e4⟩
  simp -dsimp -implicitDefEqProofs only [Z00, Z01, Z02, Z03, Z04, Z05, Z06, Z07, Z08, Z09, Z0a, Z0b, Z0c, Z0d, Z0e, Z0f, Z0g, Z0h, Z0i, Z0j, Z0k, Z0l, Z0m, Z0n, Z0o, Z0p, Z0q, Z0r, Z0s, Z0t, Z0u, Z0v, Z0w, Z0x, Z0y, Z0z, Z10, Z11, Z12, Z13, Z14, Z15, Z16, Z17, Z18, Z19, ↓reduceIte, Nat.reduceEqDiff, Z1a, Z1b, Z1c, Z1d, Z1e, Z1f, Z1g, Z1h, Z1i, Z1j, Z1k, Z1l, Z1m, Z1n, Z1o, Z1p, Z1q, Z1r, Z1s, Z1t, Z1u, Z1v, Z1w, Z1x, Z1y, Z1z, Z20, Z21, Z22, Z23, Z24, Z25, Z26, Z27, Z28, Z29, Z2a, e0, e3, e4]
  refine ifW_intro (fun hc => ?_) (fun hc => ?_)
  · simp only [decide_eq_true_eq] at hc
    have hi2 : i < ss.length := by omega
    obtain ⟨n, o, cc, opn, rw, rfl, hSn, hat, _, hcs⟩ := hel i hi2
    have hcell := (hcs i (encT ss[i]) (by simp [hi2])).val_cell
    simp only [Nat.mul_one] at hcell
    have at2 := (hext.old n (hS n hSn)).trans hat
    have hi3 : i < c.length := by omega
    simp -dsimp -implicitDefEqProofs only [Z00, Z01, Z02, Z03, Z04, Z05, Z06, Z07, Z08, Z09, Z0a, Z0b, Z0c, Z0d, Z0e, Z0f, Z0g, Z0h, Z0i, Z0j, Z0k, Z0l, Z0m, Z0n, Z0o, Z0p, Z0q, Z0r, Z0s, Z0t, Z0u, Z0v, Z0w, Z0x, Z0y, Z0z, Z10, Z11, Z12, Z13, Z14, Z15, Z16, Z17, Z18, Z19, ↓reduceIte, Nat.reduceEqDiff, Z1a, Z1b, Z1c, Z1d, Z1e, Z1f, Z1g, Z1h, Z1i, Z1j, Z1k, Z1l, Z1m, Z1n, Z1o, Z1p, Z1q, Z1r, Z1s, Z1t, Z1u, Z1v, Z1w, Z1x, Z1y, Z1z, Z20, Z21, Z22, Z23, Z24, Z25, Z26, Z27, Z28, Z29, Z2a, e0, e3, e4, s_iaddr (Int.natCast_nonneg i) hc, at2, hat2, Nat.mul_one, Int.toNat_natCast, hcell, Nat.zero_add, st_one (x := .string ss[i]) rfl hi3]
    rw [wrap64 (by omega) (by omega)]
    refine ⟨⟨i + 1, c.set i (.string ss[i]), ⟨by rw [set_size, hsz2]; omega, fun m hm => (set_other (by omega)).trans (hext.old m hm)⟩, hsz2, rfl, by simpa using hcl, ?_, hi2, trivial, trivial, rfl⟩, ?_⟩
    · rw [List.take_succ_eq_append_getElem (by simpa using hi3), List.take_succ_eq_append_getElem hi2, List.take_set_of_le (Nat.le_refl i), hct]
      simp only [List.map_append, List.map_cons, List.map_nil, List.getElem_set_self]
    · simp only [intOf]; omega
  · simp only [decide_eq_false_iff_not] at hc
    have : i = ss.length := by omega
    subst this
    simp -dsimp -implicitDefEqProofs only [Z00, Z01, Z02, Z03, Z04, Z05, Z06, Z07, Z08, Z09, Z0a, Z0b, Z0c, Z0d, Z0e, Z0f, Z0g, Z0h, Z0i, Z0j, Z0k, Z0l, Z0m, Z0n, Z0o, Z0p, Z0q, Z0r, Z0s, Z0t, Z0u, Z0v, Z0w, Z0x, Z0y, Z0z, Z10, Z11, Z12, Z13, Z14, Z15, Z16, Z17, Z18, Z19, ↓reduceIte, Nat.reduceEqDiff, Z1a, Z1b, Z1c, Z1d, Z1e, Z1f, Z1g, Z1h, Z1i, Z1j, Z1k, Z1l, Z1m, Z1n, Z1o, Z1p, Z1q, Z1r, Z1s, Z1t, Z1u, Z1v, Z1w, Z1x, Z1y, Z1z, Z20, Z21, Z22, Z23, Z24, Z25, Z26, Z27, Z28, Z29, Z2a, retK, resC, resV, e0, e3, e4]
    refine ⟨hext, [h.size], own_keys hat2 hcl (Nat.le_refl _) (by simpa using hct), ?_⟩
    intro n hn
    simp only [List.mem_singleton] at hn
    omega

mutual
/-- No slice is long. -/
def smO : OT → Prop
  | .mk _ _ _ ks kd => ks.length ≤ 1048576 ∧ kd.length ≤ 1048576 ∧ smL kd
def smL : List OT → Prop
  | [] => True
  | o :: r => smO o ∧ smL r
end
theorem smL_mem : ∀ {l : List OT}, smL l → ∀ o ∈ l, smO o
  | x :: r, g, o, ho => by
    simp only [smL] at g
    rcases List.mem_cons.1 ho with rfl | ho
    · exact g.1
    · exact smL_mem g.2 o ho

def C9 (o : OT) : Prop := ∀ (h : CH) (S : Nat → Prop) (cs : List Value), Rd h S (encO o) cs → (∀ n, S n → n < h.size) → smO o →
    callW Try.prog 9 [.agg cs.toArray] h fun r h' => Ext h h' ∧ ∃ cs' F, r = .agg cs'.toArray ∧ Own h' (encO o) cs' F ∧ Fresh h h' F

theorem zero5_len (n : Nat) (z : List Value) (hz : z.length = 5) : (List.replicate n z).flatten.length = n * 5 := by simp [hz]

theorem c34 {kd : List OT} (ih : ∀ o ∈ kd, C9 o) {h : CH} {S : Nat → Prop} {v : Value} (hs : Rd h S (.arr 5 (encL kd)) [v]) (hS : ∀ n, S n → n < h.size) (hb : kd.length ≤ 1048576) (hz : smL kd) :
    callW Try.prog 34 [v] h fun r h' => Ext h h' ∧ ∃ F, Own h' (.arr 5 (encL kd)) [r] F ∧ Fresh h h' F := by
  refine callW_of (wf _) Try.func34 m34_ok (by simp [m34]) ?_
  obtain ⟨a, cap, rfl, hel⟩ := hs.slice
  simp only [encL_len] at hel ⊢
  simp -dsimp -implicitDefEqProofs only [Z00, Z01, Z02, Z03, Z04, Z05, Z06, Z07, Z08, Z09, Z0a, Z0b, Z0c, Z0d, Z0e, Z0f, Z0g, Z0h, Z0i, Z0j, Z0k, Z0l, Z0m, Z0n, Z0o, Z0p, Z0q, Z0r, Z0s, Z0t, Z0u, Z0v, Z0w, Z0x, Z0y, Z0z, Z10, Z11, Z12, Z13, Z14, Z15, Z16, Z17, Z18, Z19, ↓reduceIte, Nat.reduceEqDiff, Z1a, Z1b, Z1c, Z1d, Z1e, Z1f, Z1g, Z1h, Z1i, Z1j, Z1k, Z1l, Z1m, Z1n, Z1o, Z1p, Z1q, Z1r, Z1s, Z1t, Z1u, Z1v, Z1w, Z1x, Z1y, Z1z, Z20, Z21, Z22, Z23, Z24, Z25, Z26, Z27, Z28, Z29, Z2a, m34]
  rw [s_mks (by omega) (by omega) (by omega) (by omega)]
  simp only [Int.toNat_natCast]
  have ext1 : Ext h (h.push (.cells (List.replicate kd.length [Value.int .i64 0, .int .i64 0, .string ⟨#[]⟩, .slice none 0 0, .slice none 0 0]).flatten 5 false true)) := .push h _
  have at1 := push_new (h := h) (o := .cells (List.replicate kd.length [Value.int .i64 0, .int .i64 0, .string ⟨#[]⟩, .slice none 0 0, .slice none 0 0]).flatten 5 false true)
  have hsz : (h.push (.cells (List.replicate kd.length [Value.int .i64 0, .int .i64 0, .string ⟨#[]⟩, .slice none 0 0, .slice none 0 0]).flatten 5 false true)).size = h.size + 1 := rfl
  revert ext1 at1 hsz
  generalize h.push (.cells (List.replicate kd.length [Value.int .i64 0, .int .i64 0, .string ⟨#[]⟩, .slice none 0 0, .slice none 0 0]).flatten 5 false true) = h1
  intro ext1 at1 hsz
  simp -dsimp -implicitDefEqProofs only [Z00, Z01, Z02, Z03, Z04, Z05, Z06, Z07, Z08, Z09, Z0a, Z0b, Z0c, Z0d, Z0e, Z0f, Z0g, Z0h, Z0i, Z0j, Z0k, Z0l, Z0m, Z0n, Z0o, Z0p, Z0q, Z0r, Z0s, Z0t, Z0u, Z0v, Z0w, Z0x, Z0y, Z0z, Z10, Z11, Z12, Z13, Z14, Z15, Z16, Z17, Z18, Z19, ↓reduceIte, Nat.reduceEqDiff, Z1a, Z1b, Z1c, Z1d, Z1e, Z1f, Z1g, Z1h, Z1i, Z1j, Z1k, Z1l, Z1m, Z1n, Z1o, Z1p, Z1q, Z1r, Z1s, Z1t, Z1u, Z1v, Z1w, Z1x, Z1y, Z1z, Z20, Z21, Z22, Z23, Z24, Z25, Z26, Z27, Z28, Z29, Z2a]
  refine loopT_of (wpC_loop (fun ρ h2 => ∃ (i : Nat) (c : List Value) (F : List Nat), Ext h h2 ∧ h.size < h2.size ∧ h2.at_ h.size = .cells c 5 false true ∧ c.length = kd.length * 5 ∧ Owns h2 (encL (kd.take i)) (c.take (i * 5)) F ∧ (∀ n ∈ F, h.size < n ∧ n < h2.size) ∧ i ≤ kd.length ∧ ρ 0 = .slice a kd.length cap ∧ ρ 3 = .slice (some ⟨h.size, 0, none⟩) kd.length kd.length ∧ ρ 4 = .int .i64 i)
      (fun ρ h1 => kd.length - intOf (ρ 4)) ⟨0, _, [], ext1, by omega, at1, zero5_len _ _ rfl, by simp [encL, Owns], by simp, Nat.zero_le _, ?_, ?_, ?_⟩ ?_)
  · simp -dsimp -implicitDefEqProofs only [Z00, Z01, Z02, Z03, Z04, Z05, Z06, Z07, Z08, Z09, Z0a, Z0b, Z0c, Z0d, Z0e, Z0f, Z0g, Z0h, Z0i, Z0j, Z0k, Z0l, Z0m, Z0n, Z0o, Z0p, Z0q, Z0r, Z0s, Z0t, Z0u, Z0v, Z0w, Z0x, Z0y, Z0z, Z10, Z11, Z12, Z13, Z14, Z15, Z16, Z17, Z18, Z19, ↓reduceIte, Nat.reduceEqDiff, Z1a, Z1b, Z1c, Z1d, Z1e, Z1f, Z1g, Z1h, Z1i, Z1j, Z1k, Z1l, Z1m, Z1n, Z1o, Z1p, Z1q, Z1r, Z1s, Z1t, Z1u, Z1v, Z1w, Z1x, Z1y, Z1z, Z20, Z21, Z22, Z23, Z24, Z25, Z26, Z27, Z28, Z29, Z2a]
  · simp -dsimp -implicitDefEqProofs only [Z00, Z01, Z02, Z03, Z04, Z05, Z06, Z07, Z08, Z09, Z0a, Z0b, Z0c, Z0d, Z0e, Z0f, Z0g, Z0h, Z0i, Z0j, Z0k, Z0l, Z0m, Z0n, Z0o, Z0p, Z0q, Z0r, Z0s, Z0t, Z0u, Z0v, Z0w, Z0x, Z0y, Z0z, Z10, Z11, Z12, Z13, Z14, Z15, Z16, Z17, Z18, Z19, ↓reduceIte, Nat.reduceEqDiff, Z1a, Z1b, Z1c, Z1d, Z1e, Z1f, Z1g, Z1h, Z1i, Z1j, Z1k, Z1l, Z1m, Z1n, Z1o, Z1p, Z1q, Z1r, Z1s, Z1t, Z1u, Z1v, Z1w, Z1x, Z1y, Z1z, Z20, Z21, Z22, Z23, Z24, Z25, Z26, Z27, Z28, Z29, Z2a]
  · simp -dsimp -implicitDefEqProofs only [Z00, Z01, Z02, Z03, Z04, Z05, Z06, Z07, Z08, Z09, Z0a, Z0b, Z0c, Z0d, Z0e, Z0f, Z0g, Z0h, Z0i, Z0j, Z0k, Z0l, Z0m, Z0n, Z0o, Z0p, Z0q, Z0r, Z0s, Z0t, Z0u, Z0v, Z0w, Z0x, Z0y, Z0z, Z10, Z11, Z12, Z13, Z14, Z15, Z16, Z17, Z18, Z19, ↓reduceIte, Nat.reduceEqDiff, Z1a, Z1b, Z1c, Z1d, Z1e, Z1f, Z1g, Z1h, Z1i, Z1j, Z1k, Z1l, Z1m, Z1n, Z1o, Z1p, Z1q, Z1r, Z1s, Z1t, Z1u, Z1v, Z1w, Z1x, Z1y, Z1z, Z20, Z21, Z22, Z23, Z24, Z25, Z26, Z27, Z28, Z29, Z2a]; rfl
  rintro ρ h2 ⟨i, c, F, hext, hlt, hat2, hcl, how, hF, hi, e0, e3, e4⟩
  simp -dsimp -implicitDefEqProofs only [Z00, Z01, Z02, Z03, Z04, Z05, Z06, Z07, Z08, Z09, Z0a, Z0b, Z0c, Z0d, Z0e, Z0f, Z0g, Z0h, Z0i, Z0j, Z0k, Z0l, Z0m, Z0n, Z0o, Z0p, Z0q, Z0r, Z0s, Z0t, Z0u, Z0v, Z0w, Z0x, Z0y, Z0z, Z10, Z11, Z12, Z13, Z14, Z15, Z16, Z17, Z18, Z19, ↓reduceIte, Nat.reduceEqDiff, Z1a, Z1b, Z1c, Z1d, Z1e, Z1f, Z1g, Z1h, Z1i, Z1j, Z1k, Z1l, Z1m, Z1n, Z1o, Z1p, Z1q, Z1r, Z1s, Z1t, Z1u, Z1v, Z1w, Z1x, Z1y, Z1z, Z20, Z21, Z22, Z23, Z24, Z25, Z26, Z27, Z28, Z29, Z2a, e0, e3, e4]
  refine ifW_intro (fun hc => ?_) (fun hc => ?_)
  · simp only [decide_eq_true_eq] at hc
    have hi2 : i < kd.length := by omega
    obtain ⟨n, o, cc, opn, rw, rfl, hSn, hat, hlen, hcs⟩ := hel i hi2
    have hcell := hcs i (encO kd[i]) (by simp [encL_eq, hi2])
    have at2 := (hext.old n (hS n hSn)).trans hat
    have room : o + i * 5 + 5 ≤ cc.length := by omega
    simp -dsimp -implicitDefEqProofs only [Z00, Z01, Z02, Z03, Z04, Z05, Z06, Z07, Z08, Z09, Z0a, Z0b, Z0c, Z0d, Z0e, Z0f, Z0g, Z0h, Z0i, Z0j, Z0k, Z0l, Z0m, Z0n, Z0o, Z0p, Z0q, Z0r, Z0s, Z0t, Z0u, Z0v, Z0w, Z0x, Z0y, Z0z, Z10, Z11, Z12, Z13, Z14, Z15, Z16, Z17, Z18, Z19, ↓reduceIte, Nat.reduceEqDiff, Z1a, Z1b, Z1c, Z1d, Z1e, Z1f, Z1g, Z1h, Z1i, Z1j, Z1k, Z1l, Z1m, Z1n, Z1o, Z1p, Z1q, Z1r, Z1s, Z1t, Z1u, Z1v, Z1w, Z1x, Z1y, Z1z, Z20, Z21, Z22, Z23, Z24, Z25, Z26, Z27, Z28, Z29, Z2a, e0, e3, e4, s_iaddr (Int.natCast_nonneg i) hc, s_loadA at2 room, Int.toNat_natCast]
    refine callT_of (ih kd[i] (List.getElem_mem hi2) h2 S _ (hcell.ext hS hext) (hext.lt hS) (smL_mem hz _ (List.getElem_mem hi2))) ?_
    rintro r h3 - ⟨hext2, cs', G, rfl, hown, hG⟩
    have hext3 := hext.trans hext2
    have hat3 := (hext2.old _ hlt).trans hat2
    have hl5 : cs'.length = 5 := hown.len.trans (wid_obj _)
    have hroom : i * 5 + 5 ≤ c.length := by omega
    have hone : cs'.all (·.oneCell') = true := hown.rd.ones
    simp -dsimp -implicitDefEqProofs only [Z00, Z01, Z02, Z03, Z04, Z05, Z06, Z07, Z08, Z09, Z0a, Z0b, Z0c, Z0d, Z0e, Z0f, Z0g, Z0h, Z0i, Z0j, Z0k, Z0l, Z0m, Z0n, Z0o, Z0p, Z0q, Z0r, Z0s, Z0t, Z0u, Z0v, Z0w, Z0x, Z0y, Z0z, Z10, Z11, Z12, Z13, Z14, Z15, Z16, Z17, Z18, Z19, ↓reduceIte, Nat.reduceEqDiff, Z1a, Z1b, Z1c, Z1d, Z1e, Z1f, Z1g, Z1h, Z1i, Z1j, Z1k, Z1l, Z1m, Z1n, Z1o, Z1p, Z1q, Z1r, Z1s, Z1t, Z1u, Z1v, Z1w, Z1x, Z1y, Z1z, Z20, Z21, Z22, Z23, Z24, Z25, Z26, Z27, Z28, Z29, Z2a, e0, e3, e4, s_iaddr (Int.natCast_nonneg i) hc, Int.toNat_natCast]
    rw [st_at hat3 (by simpa [Value.cells] using hl5) (by simpa [Value.cells] using hone) (by omega)]
    simp -dsimp -implicitDefEqProofs only [Z00, Z01, Z02, Z03, Z04, Z05, Z06, Z07, Z08, Z09, Z0a, Z0b, Z0c, Z0d, Z0e, Z0f, Z0g, Z0h, Z0i, Z0j, Z0k, Z0l, Z0m, Z0n, Z0o, Z0p, Z0q, Z0r, Z0s, Z0t, Z0u, Z0v, Z0w, Z0x, Z0y, Z0z, Z10, Z11, Z12, Z13, Z14, Z15, Z16, Z17, Z18, Z19, ↓reduceIte, Nat.reduceEqDiff, Z1a, Z1b, Z1c, Z1d, Z1e, Z1f, Z1g, Z1h, Z1i, Z1j, Z1k, Z1l, Z1m, Z1n, Z1o, Z1p, Z1q, Z1r, Z1s, Z1t, Z1u, Z1v, Z1w, Z1x, Z1y, Z1z, Z20, Z21, Z22, Z23, Z24, Z25, Z26, Z27, Z28, Z29, Z2a, e0, e3, e4]
    rw [wrap64 (by omega) (by omega)]
    have hcells : (Value.agg cs'.toArray).cells.toList = cs' := rfl
    rw [hcells, Nat.zero_add]
    have hne : ∀ m, m ≠ h.size → (h3.set h.size (.cells (setAt c (i * 5) cs') 5 false true)).at_ m = h3.at_ m := fun m hm => set_other hm
    have hs1 := hext2.size
    refine ⟨⟨i + 1, setAt c (i * 5) cs', F ++ G, ⟨hext3.size, fun m hm => (hne m (by omega)).trans (hext3.old m hm)⟩, by omega, rfl, by rw [setAt_len (by omega)]; exact hcl, ?_, ?_, hi2, trivial, trivial, rfl⟩, ?_⟩
    · rw [setAt_take hl5 hroom, List.take_succ_eq_append_getElem hi2, encL_eq, List.map_append, ← encL_eq]
      refine Owns.snoc (hown.keep fun m hm => hne m ?_) (how.keep fun m hm => (hne m ?_).trans (hext2.old m (hF m hm).2)) ?_
      · have := (hG m hm).1; omega
      · have := (hF m hm).1; omega
      · intro m hm hm2
        have := (hG m hm2).1
        have := (hF m hm).2
        omega
    · intro m hm
      rcases List.mem_append.1 hm with hm | hm
      · have := hF m hm; omega
      · have := hG m hm; omega
    · simp only [intOf]; omega
  · simp only [decide_eq_false_iff_not] at hc
    have : i = kd.length := by omega
    subst this
    simp -dsimp -implicitDefEqProofs only [Z00, Z01, Z02, Z03, Z04, Z05, Z06, Z07, Z08, Z09, Z0a, Z0b, Z0c, Z0d, Z0e, Z0f, Z0g, Z0h, Z0i, Z0j, Z0k, Z0l, Z0m, Z0n, Z0o, Z0p, Z0q, Z0r, Z0s, Z0t, Z0u, Z0v, Z0w, Z0x, Z0y, Z0z, Z10, Z11, Z12, Z13, Z14, Z15, Z16, Z17, Z18, Z19, ↓reduceIte, Nat.reduceEqDiff, Z1a, Z1b, Z1c, Z1d, Z1e, Z1f, Z1g, Z1h, Z1i, Z1j, Z1k, Z1l, Z1m, Z1n, Z1o, Z1p, Z1q, Z1r, Z1s, Z1t, Z1u, Z1v, Z1w, Z1x, Z1y, Z1z, Z20, Z21, Z22, Z23, Z24, Z25, Z26, Z27, Z28, Z29, Z2a, retK, resC, resV, e0, e3, e4]
    refine ⟨hext, h.size :: F, ?_, ?_⟩
    · simp only [Own]
      refine ⟨fun d hd => ?_, .inr ⟨h.size, c, false, kd.length, F, by simp [encL_len], rfl, fun hm => by have := (hF _ hm).1; omega, hat2, hcl, by simp [encL_len]; omega, ?_⟩⟩
      · rw [encL_eq] at hd
        obtain ⟨o, _, rfl⟩ := List.mem_map.1 hd
        exact wid_obj o
      · rw [List.take_length] at how
        rw [encL_len]; exact how
    · intro n hn
      rcases List.mem_cons.1 hn with rfl | hn
      · omega
      · have := hF n hn; omega

theorem c9_of {o : OT} (hk : ∀ a b t ks kd, o = .mk a b t ks kd → ∀ o ∈ kd, C9 o) : C9 o := by
  intro h S cs hs hS hz
  obtain ⟨a, b, t, ks, kd⟩ := o
  have ih := hk a b t ks kd rfl
  refine callW_of (wf _) Try.func9 m9_ok (by simp [m9]) ?_
  obtain ⟨vk, vl, rfl, hk, hd⟩ := hs.obj
  simp only [smO] at hz
  obtain ⟨z2, z4, z5⟩ := hz
  simp -dsimp -implicitDefEqProofs only [Z00, Z01, Z02, Z03, Z04, Z05, Z06, Z07, Z08, Z09, Z0a, Z0b, Z0c, Z0d, Z0e, Z0f, Z0g, Z0h, Z0i, Z0j, Z0k, Z0l, Z0m, Z0n, Z0o, Z0p, Z0q, Z0r, Z0s, Z0t, Z0u, Z0v, Z0w, Z0x, Z0y, Z0z, Z10, Z11, Z12, Z13, Z14, Z15, Z16, Z17, Z18, Z19, ↓reduceIte, Nat.reduceEqDiff, Z1a, Z1b, Z1c, Z1d, Z1e, Z1f, Z1g, Z1h, Z1i, Z1j, Z1k, Z1l, Z1m, Z1n, Z1o, Z1p, Z1q, Z1r, Z1s, Z1t, Z1u, Z1v, Z1w, Z1x, Z1y, Z1z, Z20, Z21, Z22, Z23, Z24, Z25, Z26, Z27, Z28, Z29, Z2a, m9]
  rw [s_box hs.ones]
  simp -dsimp -implicitDefEqProofs only [Z00, Z01, Z02, Z03, Z04, Z05, Z06, Z07, Z08, Z09, Z0a, Z0b, Z0c, Z0d, Z0e, Z0f, Z0g, Z0h, Z0i, Z0j, Z0k, Z0l, Z0m, Z0n, Z0o, Z0p, Z0q, Z0r, Z0s, Z0t, Z0u, Z0v, Z0w, Z0x, Z0y, Z0z, Z10, Z11, Z12, Z13, Z14, Z15, Z16, Z17, Z18, Z19, ↓reduceIte, Nat.reduceEqDiff, Z1a, Z1b, Z1c, Z1d, Z1e, Z1f, Z1g, Z1h, Z1i, Z1j, Z1k, Z1l, Z1m, Z1n, Z1o, Z1p, Z1q, Z1r, Z1s, Z1t, Z1u, Z1v, Z1w, Z1x, Z1y, Z1z, Z20, Z21, Z22, Z23, Z24, Z25, Z26, Z27, Z28, Z29, Z2a]
  have hh : ∃ h3, h3 = ((h.push (.cells [Value.int .i64 a, .int .i64 b, .string t, vk, vl] 5 false true)).push (.cells [Value.int .i64 0, .int .i64 0, .string ⟨#[]⟩, .slice none 0 0, .slice none 0 0] 5 false true)).push (.cells [Value.int .i64 0, .int .i64 0, .string ⟨#[]⟩, .slice none 0 0, .slice none 0 0] 5 false true) := ⟨_, rfl⟩
  obtain ⟨h3, hh⟩ := hh
  have ext3 : Ext h h3 := by rw [hh]; exact ((Ext.push _ _).trans (Ext.push _ _)).trans (Ext.push _ _)
  have sz3 : h3.size = h.size + 3 := by rw [hh]; rfl
  have at1 : h3.at_ h.size = .cells [Value.int .i64 a, .int .i64 b, .string t, vk, vl] 5 false true := by
    rw [hh, push_old (by simp only [push_size]; omega), push_old (by simp only [push_size]; omega), push_new]
  have at2 : h3.at_ (h.size + 1) = .cells [Value.int .i64 0, .int .i64 0, .string ⟨#[]⟩, .slice none 0 0, .slice none 0 0] 5 false true := by
    rw [hh, push_old (by simp only [push_size]; omega)]; exact push_new
  have at3 : h3.at_ (h.size + 1 + 1) = .cells [Value.int .i64 0, .int .i64 0, .string ⟨#[]⟩, .slice none 0 0, .slice none 0 0] 5 false true := by
    rw [hh]; exact push_new
  rw [← hh]
  clear hh
  have hne : ∀ x y : CO, (h3.set (h.size + 1 + 1) x).at_ h.size = h3.at_ h.size := fun x y => set_other (by omega)
  simp -dsimp -implicitDefEqProofs only [Z00, Z01, Z02, Z03, Z04, Z05, Z06, Z07, Z08, Z09, Z0a, Z0b, Z0c, Z0d, Z0e, Z0f, Z0g, Z0h, Z0i, Z0j, Z0k, Z0l, Z0m, Z0n, Z0o, Z0p, Z0q, Z0r, Z0s, Z0t, Z0u, Z0v, Z0w, Z0x, Z0y, Z0z, Z10, Z11, Z12, Z13, Z14, Z15, Z16, Z17, Z18, Z19, ↓reduceIte, Nat.reduceEqDiff, Z1a, Z1b, Z1c, Z1d, Z1e, Z1f, Z1g, Z1h, Z1i, Z1j, Z1k, Z1l, Z1m, Z1n, Z1o, Z1p, Z1q, Z1r, Z1s, Z1t, Z1u, Z1v, Z1w, Z1x, Z1y, Z1z, Z20, Z21, Z22, Z23, Z24, Z25, Z26, Z27, Z28, Z29, Z2a, at1, at3, set_other (show h.size ≠ h.size + 1 + 1 by omega), Nat.zero_add, List.getElem?_cons_succ, List.getElem?_cons_zero, st_one (x := .int .i64 _) rfl, st_one (x := .string _) rfl, List.length_cons, List.length_nil, Nat.reduceAdd, Nat.reduceLT, List.set_cons_zero, List.set_cons_succ, set_set]
  have hh : ∃ h4, h4 = h3.set (h.size + 1 + 1) (.cells [Value.int .i64 a, .int .i64 b, .string t, .slice none 0 0, .slice none 0 0] 5 false true) := ⟨_, rfl⟩
  obtain ⟨h4, hh⟩ := hh
  have ext4 : Ext h h4 := by rw [hh]; exact ext3.set (by omega)
  have sz4 : h4.size = h.size + 3 := by rw [hh]; exact sz3
  have bt1 : h4.at_ h.size = .cells [Value.int .i64 a, .int .i64 b, .string t, vk, vl] 5 false true := by rw [hh, set_other (by omega)]; exact at1
  have bt2 : h4.at_ (h.size + 1) = .cells [Value.int .i64 0, .int .i64 0, .string ⟨#[]⟩, .slice none 0 0, .slice none 0 0] 5 false true := by rw [hh, set_other (by omega)]; exact at2
  have bt3 : h4.at_ (h.size + 1 + 1) = .cells [Value.int .i64 a, .int .i64 b, .string t, .slice none 0 0, .slice none 0 0] 5 false true := by rw [hh]; exact set_same
  rw [← hh]
  clear hh
  refine callT_of (c33 (hk.ext hS ext4) (ext4.lt hS) z2) ?_
  rintro r h5 - ⟨ext5, F, own1, fr1⟩
  have one1 : r.oneCell' = true := by simpa using own1.rd.ones
  have at1 := (ext5.old _ (by omega)).trans bt1
  have at2 := (ext5.old _ (by omega)).trans bt2
  have at3 := (ext5.old _ (by omega)).trans bt3
  have s5 := ext5.size
  simp -dsimp -implicitDefEqProofs only [Z00, Z01, Z02, Z03, Z04, Z05, Z06, Z07, Z08, Z09, Z0a, Z0b, Z0c, Z0d, Z0e, Z0f, Z0g, Z0h, Z0i, Z0j, Z0k, Z0l, Z0m, Z0n, Z0o, Z0p, Z0q, Z0r, Z0s, Z0t, Z0u, Z0v, Z0w, Z0x, Z0y, Z0z, Z10, Z11, Z12, Z13, Z14, Z15, Z16, Z17, Z18, Z19, ↓reduceIte, Nat.reduceEqDiff, Z1a, Z1b, Z1c, Z1d, Z1e, Z1f, Z1g, Z1h, Z1i, Z1j, Z1k, Z1l, Z1m, Z1n, Z1o, Z1p, Z1q, Z1r, Z1s, Z1t, Z1u, Z1v, Z1w, Z1x, Z1y, Z1z, Z20, Z21, Z22, Z23, Z24, Z25, Z26, Z27, Z28, Z29, Z2a, at1, at3, set_other (show h.size ≠ h.size + 1 + 1 by omega), Nat.zero_add, List.getElem?_cons_succ, List.getElem?_cons_zero, st_one one1, List.length_cons, List.length_nil, Nat.reduceAdd, Nat.reduceLT, List.set_cons_zero, List.set_cons_succ, set_set]
  have hh : ∃ h6, h6 = h5.set (h.size + 1 + 1) (.cells [Value.int .i64 a, .int .i64 b, .string t, r, .slice none 0 0] 5 false true) := ⟨_, rfl⟩
  obtain ⟨h6, hh⟩ := hh
  have ext6 : Ext h h6 := by rw [hh]; exact (ext4.trans ext5).set (by omega)
  have sz6 : h6.size = h5.size := by rw [hh]; rfl
  have bt2 : h6.at_ (h.size + 1) = .cells [Value.int .i64 0, .int .i64 0, .string ⟨#[]⟩, .slice none 0 0, .slice none 0 0] 5 false true := by rw [hh, set_other (by omega)]; exact at2
  have bt3 : h6.at_ (h.size + 1 + 1) = .cells [Value.int .i64 a, .int .i64 b, .string t, r, .slice none 0 0] 5 false true := by rw [hh]; exact set_same
  have own1 : Own h6 (encK ks) [r] F := own1.keep fun n hn => by rw [hh]; exact set_other (by have := (fr1 n hn).1; omega)
  rw [← hh]
  clear hh
  refine callT_of (c34 ih (hd.ext hS ext6) (ext6.lt hS) z4 z5) ?_
  rintro r2 h7 - ⟨ext7, G, own2, fr2⟩
  have one2 : r2.oneCell' = true := by simpa using own2.rd.ones
  have at2 := (ext7.old _ (by omega)).trans bt2
  have at3 := (ext7.old _ (by omega)).trans bt3
  have s7 := ext7.size
  have own1 := own1.ext (fun n hn => by have := (fr1 n hn).2; omega) ext7
  have ones : ([Value.int .i64 a, .int .i64 b, .string t, r, r2] : List Value).all (·.oneCell') = true := by
    simp only [List.all_cons, List.all_nil, one1, one2]; rfl
  simp -dsimp -implicitDefEqProofs only [Z00, Z01, Z02, Z03, Z04, Z05, Z06, Z07, Z08, Z09, Z0a, Z0b, Z0c, Z0d, Z0e, Z0f, Z0g, Z0h, Z0i, Z0j, Z0k, Z0l, Z0m, Z0n, Z0o, Z0p, Z0q, Z0r, Z0s, Z0t, Z0u, Z0v, Z0w, Z0x, Z0y, Z0z, Z10, Z11, Z12, Z13, Z14, Z15, Z16, Z17, Z18, Z19, ↓reduceIte, Nat.reduceEqDiff, Z1a, Z1b, Z1c, Z1d, Z1e, Z1f, Z1g, Z1h, Z1i, Z1j, Z1k, Z1l, Z1m, Z1n, Z1o, Z1p, Z1q, Z1r, Z1s, Z1t, Z1u, Z1v, Z1w, Z1x, Z1y, Z1z, Z20, Z21, Z22, Z23, Z24, Z25, Z26, Z27, Z28, Z29, Z2a, at2, at3, set_other (show h.size + 1 ≠ h.size + 1 + 1 by omega), Nat.zero_add, List.getElem?_cons_succ, List.getElem?_cons_zero, st_one one2, List.length_cons, List.length_nil, Nat.reduceAdd, Nat.reduceLT, Nat.reduceLeDiff, List.set_cons_zero, List.set_cons_succ, set_set, ldA_cells, List.drop_zero, List.take_succ_cons, List.take_zero, st_all (m := 5) (c := [Value.int .i64 0, .int .i64 0, .string ⟨#[]⟩, .slice none 0 0, .slice none 0 0]) ones rfl rfl, Nat.le_refl, retK, resC, resV]
  refine ⟨((ext6.trans ext7).set (by omega)).set (by omega), [Value.int .i64 a, .int .i64 b, .string t, r, r2], F ++ G, rfl, ?_, ?_⟩
  · have keep : ∀ n, h.size + 3 ≤ n → ((h7.set (h.size + 1 + 1) (.cells [Value.int .i64 a, .int .i64 b, .string t, r, r2] 5 false true)).set (h.size + 1) (.cells [Value.int .i64 a, .int .i64 b, .string t, r, r2] 5 false true)).at_ n = h7.at_ n :=
      fun n hn => (set_other (by omega)).trans (set_other (by omega))
    have o1 := own1.keep fun n hn => keep n (by have := (fr1 n hn).1; omega)
    have o2 := own2.keep fun n hn => keep n (by have := (fr2 n hn).1; omega)
    simp only [encO, Own, Owns]
    refine ⟨[.int .i64 a], [.int .i64 b, .string t, r, r2], [], F ++ G, rfl, rfl, by simp, ⟨rfl, rfl, rfl⟩, [.int .i64 b], [.string t, r, r2], [], F ++ G, rfl, rfl, by simp, ⟨rfl, rfl, rfl⟩,
      [.string t], [r, r2], [], F ++ G, rfl, rfl, by simp, ⟨rfl, rfl, rfl⟩, [r], [r2], F, G, rfl, rfl, ?_, o1, [r2], [], G, [], rfl, by simp, by simp, ?_, rfl, rfl⟩
    · intro n hn hm
      have := (fr1 n hn).2
      have := (fr2 n hm).1
      omega
    · simpa only [Own] using o2
  · intro n hn
    rcases List.mem_append.1 hn with hn | hn
    · have := fr1 n hn
      simp only [set_size]; omega
    · have := fr2 n hn
      simp only [set_size]; omega

theorem c9 (o : OT) : C9 o := c9_of fun a b t ks kd e o' ho => c9 o'
termination_by SizeOf.sizeOf o
decreasing_by
  subst e
  have := List.sizeOf_lt_of_mem ho
  simp only [OT.mk.sizeOf_spec]
  omega

end Go.Proofs.Ytdfmdclfnhgjiaa.Can
