/- Marks: the text of a mark, and whether marks are held.
   Conditions: those that each law names. -/
import Derived.Test.YtdfmdclfnhgjiaaObH
set_option linter.unusedVariables false
set_option linter.unusedSimpArgs false
namespace Go.Proofs.Ytdfmdclfnhgjiaa.Can
open Go

def dg (k : Int) : ByteArray := ⟨#[UInt8.ofNat (IntKind.wrap .u8 (IntKind.wrap .i64 (48 + k.tmod 10))).toNat]⟩
def mtGo : Nat → Int → ByteArray → ByteArray
  | 0, _, out => out
  | f + 1, k, out => if k > 0 then mtGo f (k.tdiv 10) (dg k ++ out) else out
def mt (k : Int) : ByteArray := if k ≤ 0 then ⟨#[109, 48]⟩ else ⟨#[109]⟩ ++ mtGo 64 k ⟨#[]⟩

theorem s_b2s1 {P : Program} {h : CH} {L : Value → CH → Prop} {n k : Nat} {z : Int} {p q : Bool} {u : Tok L} (e : h.at_ n = .cells [.int .u8 z] k p q) : stepT P .b2s [.slice (some ⟨n, 0, none⟩) 1 1] h L u = L (.string ⟨#[UInt8.ofNat z.toNat]⟩) h := by
  simp [stepT, stepW, readC, cellsAt, e, asBytes, oW]

theorem dg_size (k : Int) : (dg k).size = 1 := rfl

theorem c67 {h : CH} {k : Int} (h0 : 0 ≤ k) (h1 : k ≤ 9223372036854775807) : callW Try.prog 67 [.int .i64 k] h fun r h' => Ext h h' ∧ r = .string (mt k) := by
  refine callW_of (wf _) Try.func67 m67_ok (by simp [m67]) ?_
  simp -dsimp -implicitDefEqProofs only [Z00, Z01, Z02, Z03, Z04, Z05, Z06, Z07, Z08, Z09, Z0a, Z0b, Z0c, Z0d, Z0e, Z0f, Z0g, Z0h, Z0i, Z0j, Z0k, Z0l, Z0m, Z0n, Z0o, Z0p, Z0q, Z0r, Z0s, Z0t, Z0u, Z0v, Z0w, Z0x, Z0y, Z0z, Z10, Z11, Z12, Z13, Z14, Z15, Z16, Z17, Z18, Z19, ↓reduceIte, Nat.reduceEqDiff, Z1a, Z1b, Z1c, Z1d, Z1e, Z1f, Z1g, Z1h, Z1i, Z1j, Z1k, Z1l, Z1m, Z1n, Z1o, Z1p, Z1q, Z1r, Z1s, Z1t, Z1u, Z1v, Z1w, Z1x, Z1y, Z1z, Z20, Z21, Z22, Z23, Z24, Z25, Z26, Z27, Z28, Z29, Z2a, m67]
  refine ifW_intro (fun hc => ?_) (fun hc => ?_)
  · simp -dsimp -implicitDefEqProofs only [Z00, Z01, Z02, Z03, Z04, Z05, Z06, Z07, Z08, Z09, Z0a, Z0b, Z0c, Z0d, Z0e, Z0f, Z0g, Z0h, Z0i, Z0j, Z0k, Z0l, Z0m, Z0n, Z0o, Z0p, Z0q, Z0r, Z0s, Z0t, Z0u, Z0v, Z0w, Z0x, Z0y, Z0z, Z10, Z11, Z12, Z13, Z14, Z15, Z16, Z17, Z18, Z19, ↓reduceIte, Nat.reduceEqDiff, Z1a, Z1b, Z1c, Z1d, Z1e, Z1f, Z1g, Z1h, Z1i, Z1j, Z1k, Z1l, Z1m, Z1n, Z1o, Z1p, Z1q, Z1r, Z1s, Z1t, Z1u, Z1v, Z1w, Z1x, Z1y, Z1z, Z20, Z21, Z22, Z23, Z24, Z25, Z26, Z27, Z28, Z29, Z2a, retK, resC, resV]
    simp only [decide_eq_true_eq] at hc
    exact ⟨Ext.refl h, by simp only [mt, if_pos hc]⟩
  simp only [decide_eq_false_iff_not] at hc
  simp -dsimp -implicitDefEqProofs only [Z00, Z01, Z02, Z03, Z04, Z05, Z06, Z07, Z08, Z09, Z0a, Z0b, Z0c, Z0d, Z0e, Z0f, Z0g, Z0h, Z0i, Z0j, Z0k, Z0l, Z0m, Z0n, Z0o, Z0p, Z0q, Z0r, Z0s, Z0t, Z0u, Z0v, Z0w, Z0x, Z0y, Z0z, Z10, Z11, Z12, Z13, Z14, Z15, Z16, Z17, Z18, Z19, ↓reduceIte, Nat.reduceEqDiff, Z1a, Z1b, Z1c, Z1d, Z1e, Z1f, Z1g, Z1h, Z1i, Z1j, Z1k, Z1l, Z1m, Z1n, Z1o, Z1p, Z1q, Z1r, Z1s, Z1t, Z1u, Z1v, Z1w, Z1x, Z1y, Z1z, Z20, Z21, Z22, Z23, Z24, Z25, Z26, Z27, Z28, Z29, Z2a]
  refine loopT_of (wpC_loop (fun ρ h1 => ∃ (f : Nat) (j : Int) (out : ByteArray), Ext h h1 ∧ 0 ≤ j ∧ j < 2 ^ f ∧ j ≤ 9223372036854775807 ∧ out.size + f ≤ 64 ∧ mtGo 64 k ⟨#[]⟩ = mtGo f j out ∧ ρ 0 = .int .i64 j ∧ ρ 3 = .string out)
      (fun ρ h1 => intOf (ρ 0)) ⟨64, k, ⟨#[]⟩, Ext.refl h, h0, by omega, h1, by simp [ByteArray.size], rfl, ?_, ?_⟩ ?_)
  · simp -dsimp -implicitDefEqProofs only [Z00, Z01, Z02, Z03, Z04, Z05, Z06, Z07, Z08, Z09, Z0a, Z0b, Z0c, Z0d, Z0e, Z0f, Z0g, Z0h, Z0i, Z0j, Z0k, Z0l, Z0m, Z0n, Z0o, Z0p, Z0q, Z0r, Z0s, Z0t, Z0u, Z0v, Z0w, Z0x, Z0y, Z0z, Z10, Z11, Z12, Z13, Z14, Z15, Z16, Z17, Z18, Z19, ↓reduceIte, Nat.reduceEqDiff, Z1a, Z1b, Z1c, Z1d, Z1e, Z1f, Z1g, Z1h, Z1i, Z1j, Z1k, Z1l, Z1m, Z1n, Z1o, Z1p, Z1q, Z1r, Z1s, Z1t, Z1u, Z1v, Z1w, Z1x, Z1y, Z1z, Z20, Z21, Z22, Z23, Z24, Z25, Z26, Z27, Z28, Z29, Z2a]
  · simp -dsimp -implicitDefEqProofs only [Z00, Z01, Z02, Z03, Z04, Z05, Z06, Z07, Z08, Z09, Z0a, Z0b, Z0c, Z0d, Z0e, Z0f, Z0g, Z0h, Z0i, Z0j, Z0k, Z0l, Z0m, Z0n, Z0o, Z0p, Z0q, Z0r, Z0s, Z0t, Z0u, Z0v, Z0w, Z0x, Z0y, Z0z, Z10, Z11, Z12, Z13, Z14, Z15, Z16, Z17, Z18, Z19, ↓reduceIte, Nat.reduceEqDiff, Z1a, Z1b, Z1c, Z1d, Z1e, Z1f, Z1g, Z1h, Z1i, Z1j, Z1k, Z1l, Z1m, Z1n, Z1o, Z1p, Z1q, Z1r, Z1s, Z1t, Z1u, Z1v, Z1w, Z1x, Z1y, Z1z, Z20, Z21, Z22, Z23, Z24, Z25, Z26, Z27, Z28, Z29, Z2a]
  rintro ρ h2 ⟨f, j, out, hext, j0, jf, jm, hsz, hgo, e0, e3⟩
  simp -dsimp -implicitDefEqProofs only [Z00, Z01, Z02, Z03, Z04, Z05, Z06, Z07, Z08, Z09, Z0a, Z0b, Z0c, Z0d, Z0e, Z0f, Z0g, Z0h, Z0i, Z0j, Z0k, Z0l, Z0m, Z0n, Z0o, Z0p, Z0q, Z0r, Z0s, Z0t, Z0u, Z0v, Z0w, Z0x, Z0y, Z0z, Z10, Z11, Z12, Z13, Z14, Z15, Z16, Z17, Z18, Z19, ↓reduceIte, Nat.reduceEqDiff, Z1a, Z1b, Z1c, Z1d, Z1e, Z1f, Z1g, Z1h, Z1i, Z1j, Z1k, Z1l, Z1m, Z1n, Z1o, Z1p, Z1q, Z1r, Z1s, Z1t, Z1u, Z1v, Z1w, Z1x, Z1y, Z1z, Z20, Z21, Z22, Z23, Z24, Z25, Z26, Z27, Z28, Z29, Z2a, e0, e3]
  refine ifW_intro (fun hc2 => ?_) (fun hc2 => ?_)
  · simp only [gt_iff_lt, decide_eq_true_eq] at hc2
    cases f with
    | zero => simp at jf; omega
    | succ f =>
      simp only [mtGo, if_pos hc2] at hgo
      have q1 : j.tdiv 10 = j / 10 := Int.tdiv_eq_ediv_of_nonneg j0
      have q2 : j / 10 < 2 ^ f := by
        have : j < 2 ^ f * 2 := by rw [← Int.pow_succ]; exact jf
        omega
      simp -dsimp -implicitDefEqProofs only [Z00, Z01, Z02, Z03, Z04, Z05, Z06, Z07, Z08, Z09, Z0a, Z0b, Z0c, Z0d, Z0e, Z0f, Z0g, Z0h, Z0i, Z0j, Z0k, Z0l, Z0m, Z0n, Z0o, Z0p, Z0q, Z0r, Z0s, Z0t, Z0u, Z0v, Z0w, Z0x, Z0y, Z0z, Z10, Z11, Z12, Z13, Z14, Z15, Z16, Z17, Z18, Z19, ↓reduceIte, Nat.reduceEqDiff, Z1a, Z1b, Z1c, Z1d, Z1e, Z1f, Z1g, Z1h, Z1i, Z1j, Z1k, Z1l, Z1m, Z1n, Z1o, Z1p, Z1q, Z1r, Z1s, Z1t, Z1u, Z1v, Z1w, Z1x, Z1y, Z1z, Z20, Z21, Z22, Z23, Z24, Z25, Z26, Z27, Z28, Z29, Z2a, e0, e3, s_rem (b := 10) (by decide), s_quo (b := 10) (by decide)]
      rw [s_blds1 (k := 1) (z := [.int .u8 0]) rfl rfl rfl]
      have hcells : (Value.int .u8 (IntKind.wrap .u8 (IntKind.wrap .i64 (48 + j.tmod 10)))).cells.toList = [.int .u8 (IntKind.wrap .u8 (IntKind.wrap .i64 (48 + j.tmod 10)))] := rfl
      rw [hcells]
      have hh : ∃ h3, h3 = h2.push (.cells [.int .u8 (IntKind.wrap .u8 (IntKind.wrap .i64 (48 + j.tmod 10)))] 1 false true) := ⟨_, rfl⟩
      obtain ⟨h3, hh⟩ := hh
      have ext3 : Ext h2 h3 := by rw [hh]; exact Ext.push _ _
      have at3 : h3.at_ h2.size = .cells [.int .u8 (IntKind.wrap .u8 (IntKind.wrap .i64 (48 + j.tmod 10)))] 1 false true := by rw [hh]; exact push_new
      rw [← hh]
      clear hh
      have hadd : (dg j).size + out.size ≤ 9223372036854775807 := by rw [dg_size]; omega
      simp -dsimp -implicitDefEqProofs only [Z00, Z01, Z02, Z03, Z04, Z05, Z06, Z07, Z08, Z09, Z0a, Z0b, Z0c, Z0d, Z0e, Z0f, Z0g, Z0h, Z0i, Z0j, Z0k, Z0l, Z0m, Z0n, Z0o, Z0p, Z0q, Z0r, Z0s, Z0t, Z0u, Z0v, Z0w, Z0x, Z0y, Z0z, Z10, Z11, Z12, Z13, Z14, Z15, Z16, Z17, Z18, Z19, ↓reduceIte, Nat.reduceEqDiff, Z1a, Z1b, Z1c, Z1d, Z1e, Z1f, Z1g, Z1h, Z1i, Z1j, Z1k, Z1l, Z1m, Z1n, Z1o, Z1p, Z1q, Z1r, Z1s, Z1t, Z1u, Z1v, Z1w, Z1x, Z1y, Z1z, Z20, Z21, Z22, Z23, Z24, Z25, Z26, Z27, Z28, Z29, Z2a, e0, e3, s_b2s1 at3, s_sadd (a := dg j) hadd, s_rem (b := 10) (by decide), s_quo (b := 10) (by decide)]
      rw [show (⟨#[UInt8.ofNat (IntKind.wrap .u8 (IntKind.wrap .i64 (48 + j.tmod 10))).toNat]⟩ : ByteArray) = dg j from rfl, s_sadd hadd]
      simp -dsimp -implicitDefEqProofs only [Z00, Z01, Z02, Z03, Z04, Z05, Z06, Z07, Z08, Z09, Z0a, Z0b, Z0c, Z0d, Z0e, Z0f, Z0g, Z0h, Z0i, Z0j, Z0k, Z0l, Z0m, Z0n, Z0o, Z0p, Z0q, Z0r, Z0s, Z0t, Z0u, Z0v, Z0w, Z0x, Z0y, Z0z, Z10, Z11, Z12, Z13, Z14, Z15, Z16, Z17, Z18, Z19, ↓reduceIte, Nat.reduceEqDiff, Z1a, Z1b, Z1c, Z1d, Z1e, Z1f, Z1g, Z1h, Z1i, Z1j, Z1k, Z1l, Z1m, Z1n, Z1o, Z1p, Z1q, Z1r, Z1s, Z1t, Z1u, Z1v, Z1w, Z1x, Z1y, Z1z, Z20, Z21, Z22, Z23, Z24, Z25, Z26, Z27, Z28, Z29, Z2a, e0, e3, s_rem (b := 10) (by decide), s_quo (b := 10) (show (10 : Int) ≠ 0 by decide)]
      rw [wrap64 (by omega) (by omega)]
      refine ⟨⟨f, j.tdiv 10, dg j ++ out, hext.trans ext3, by omega, by omega, by omega, ?_, hgo, rfl, rfl⟩, ?_⟩
      · rw [ByteArray.size_append, dg_size]; omega
      · simp only [intOf]; omega
  · simp only [gt_iff_lt, decide_eq_false_iff_not] at hc2
    have hout : mtGo f j out = out := by
      cases f with
      | zero => rfl
      | succ f => simp only [mtGo]; rw [if_neg hc2]
    have hadd : (⟨#[109]⟩ : ByteArray).size + out.size ≤ 9223372036854775807 := by
      have : (⟨#[109]⟩ : ByteArray).size = 1 := rfl
      omega
    simp -dsimp -implicitDefEqProofs only [Z00, Z01, Z02, Z03, Z04, Z05, Z06, Z07, Z08, Z09, Z0a, Z0b, Z0c, Z0d, Z0e, Z0f, Z0g, Z0h, Z0i, Z0j, Z0k, Z0l, Z0m, Z0n, Z0o, Z0p, Z0q, Z0r, Z0s, Z0t, Z0u, Z0v, Z0w, Z0x, Z0y, Z0z, Z10, Z11, Z12, Z13, Z14, Z15, Z16, Z17, Z18, Z19, ↓reduceIte, Nat.reduceEqDiff, Z1a, Z1b, Z1c, Z1d, Z1e, Z1f, Z1g, Z1h, Z1i, Z1j, Z1k, Z1l, Z1m, Z1n, Z1o, Z1p, Z1q, Z1r, Z1s, Z1t, Z1u, Z1v, Z1w, Z1x, Z1y, Z1z, Z20, Z21, Z22, Z23, Z24, Z25, Z26, Z27, Z28, Z29, Z2a, e0, e3]
    rw [s_sadd hadd]
    simp -dsimp -implicitDefEqProofs only [Z00, Z01, Z02, Z03, Z04, Z05, Z06, Z07, Z08, Z09, Z0a, Z0b, Z0c, Z0d, Z0e, Z0f, Z0g, Z0h, Z0i, Z0j, Z0k, Z0l, Z0m, Z0n, Z0o, Z0p, Z0q, Z0r, Z0s, Z0t, Z0u, Z0v, Z0w, Z0x, Z0y, Z0z, Z10, Z11, Z12, Z13, Z14, Z15, Z16, Z17, Z18, Z19, ↓reduceIte, Nat.reduceEqDiff, Z1a, Z1b, Z1c, Z1d, Z1e, Z1f, Z1g, Z1h, Z1i, Z1j, Z1k, Z1l, Z1m, Z1n, Z1o, Z1p, Z1q, Z1r, Z1s, Z1t, Z1u, Z1v, Z1w, Z1x, Z1y, Z1z, Z20, Z21, Z22, Z23, Z24, Z25, Z26, Z27, Z28, Z29, Z2a, retK, resC, resV]
    refine ⟨hext, ?_⟩
    rw [mt, if_neg hc, hgo, hout]

def mkK : List ByteArray → Int → List ByteArray
  | [], _ => []
  | _ :: r, k => mt k :: mkK r (k + 1)
theorem mkK_len : ∀ (ks : List ByteArray) (k : Int), (mkK ks k).length = ks.length
  | [], _ => rfl
  | _ :: r, k => by simp [mkK, mkK_len r]
theorem mkK_step : ∀ (ks : List ByteArray) (k : Int) (i : Nat), i < ks.length → (mkK (ks.take i) k ++ ks.drop i).set i (mt (k + i)) = mkK (ks.take (i + 1)) k ++ ks.drop (i + 1)
  | [], _, _, h => by simp at h
  | s :: r, k, 0, h => by simp [mkK]
  | s :: r, k, i + 1, h => by
    have := mkK_step r (k + 1) i (by simpa using h)
    simp only [List.take_succ_cons, mkK, List.drop_succ_cons, List.cons_append, List.set_cons_succ]
    rw [← this]
    congr 3
    push_cast
    omega

theorem Owns.vals_inv {h : CH} : ∀ {xs : List Value} {cs : List Value} {F : List Nat}, Owns h (xs.map .val) cs F → cs = xs ∧ F = []
  | [], cs, F, g => by simpa [Owns] using g
  | x :: xs, cs, F, g => by
    simp only [List.map_cons, Owns, Own] at g
    obtain ⟨c1, c2, F1, F2, rfl, rfl, _, ⟨rfl, _, rfl⟩, g2⟩ := g
    obtain ⟨rfl, rfl⟩ := Owns.vals_inv g2
    exact ⟨rfl, rfl⟩
theorem own_keys_inv {h : CH} {ks : List ByteArray} {v : Value} {F : List Nat} (g : Own h (encK ks) [v] F) : (ks = [] ∧ v = .slice none 0 0 ∧ F = []) ∨
    ∃ n c opn cap, v = .slice (some ⟨n, 0, none⟩) ks.length cap ∧ F = [n] ∧ h.at_ n = .cells c 1 opn true ∧ c.length = cap ∧ ks.length ≤ cap ∧ c.take ks.length = ks.map Value.string := by
  rw [encK_vals] at g
  simp only [Own] at g
  obtain ⟨_, ⟨e1, e2, e3⟩ | ⟨n, c, opn, cap, G, e1, rfl, e2, e3, e4, e5, e6⟩⟩ := g
  · simp only [List.map_eq_nil_iff] at e1
    simp only [List.cons.injEq, and_true] at e2
    exact .inl ⟨e1, e2, e3⟩
  · obtain ⟨q1, rfl⟩ := Owns.vals_inv e6
    simp only [List.length_map, List.cons.injEq, and_true, Nat.mul_one] at e1 e4 e5 q1
    exact .inr ⟨n, c, opn, cap, e1, rfl, e3, e4, by omega, q1⟩

/-- Only what is among these may have changed. -/
def Chg (h h' : CH) (F : List Nat) : Prop := h.size ≤ h'.size ∧ ∀ n, n < h.size → n ∉ F → h'.at_ n = h.at_ n

theorem c39 {h : CH} {v : Value} {ks : List ByteArray} {F : List Nat} {k : Int} (hs : Own h (encK ks) [v] F) (hF : ∀ n ∈ F, n < h.size) (k0 : 0 ≤ k) (k1 : k + ks.length ≤ 4294967296) :
    callW Try.prog 39 [v, .int .i64 k] h fun r h' => Chg h h' F ∧ r = .int .i64 (k + ks.length) ∧ Own h' (encK (mkK ks k)) [v] F := by
  refine callW_of (wf _) Try.func39 m39_ok (by simp [m39]) ?_
  have hv : ∃ a cap, v = .slice a ks.length cap := by
    rcases own_keys_inv hs with ⟨rfl, rfl, _⟩ | ⟨n, c, opn, cap, rfl, _⟩
    · exact ⟨_, _, rfl⟩
    · exact ⟨_, _, rfl⟩
  obtain ⟨a, cap, rfl⟩ := hv
  simp -dsimp -implicitDefEqProofs only [Z00, Z01, Z02, Z03, Z04, Z05, Z06, Z07, Z08, Z09, Z0a, Z0b, Z0c, Z0d, Z0e, Z0f, Z0g, Z0h, Z0i, Z0j, Z0k, Z0l, Z0m, Z0n, Z0o, Z0p, Z0q, Z0r, Z0s, Z0t, Z0u, Z0v, Z0w, Z0x, Z0y, Z0z, Z10, Z11, Z12, Z13, Z14, Z15, Z16, Z17, Z18, Z19, ↓reduceIte, Nat.reduceEqDiff, Z1a, Z1b, Z1c, Z1d, Z1e, Z1f, Z1g, Z1h, Z1i, Z1j, Z1k, Z1l, Z1m, Z1n, Z1o, Z1p, Z1q, Z1r, Z1s, Z1t, Z1u, Z1v, Z1w, Z1x, Z1y, Z1z, Z20, Z21, Z22, Z23, Z24, Z25, Z26, Z27, Z28, Z29, Z2a, m39]
  refine loopT_of (wpC_loop (fun ρ h1 => ∃ (i : Nat), Chg h h1 F ∧ Own h1 (encK (mkK (ks.take i) k ++ ks.drop i)) [.slice a ks.length cap] F ∧ i ≤ ks.length ∧ ρ 0 = .slice a ks.length cap ∧ ρ 1 = .int .i64 (k + i) ∧ ρ 5 = .int .i64 i)
      (fun ρ h1 => ks.length - intOf (ρ 5)) ⟨0, ⟨Nat.le_refl _, fun _ _ _ => rfl⟩, by simpa [mkK] using hs, Nat.zero_le _, ?_, ?_, ?_⟩ ?_)
  · simp -dsimp -implicitDefEqProofs only [Z00, Z01, Z02, Z03, Z04, Z05, Z06, Z07, Z08, Z09, Z0a, Z0b, Z0c, Z0d, Z0e, Z0f, Z0g, Z0h, Z0i, Z0j, Z0k, Z0l, Z0m, Z0n, Z0o, Z0p, Z0q, Z0r, Z0s, Z0t, Z0u, Z0v, Z0w, Z0x, Z0y, Z0z, Z10, Z11, Z12, Z13, Z14, Z15, Z16, Z17, Z18, Z19, ↓reduceIte, Nat.reduceEqDiff, Z1a, Z1b, Z1c, Z1d, Z1e, Z1f, Z1g, Z1h, Z1i, Z1j, Z1k, Z1l, Z1m, Z1n, Z1o, Z1p, Z1q, Z1r, Z1s, Z1t, Z1u, Z1v, Z1w, Z1x, Z1y, Z1z, Z20, Z21, Z22, Z23, Z24, Z25, Z26, Z27, Z28, Z29, Z2a]
  · simp -dsimp -implicitDefEqProofs only [Z00, Z01, Z02, Z03, Z04, Z05, Z06, Z07, Z08, Z09, Z0a, Z0b, Z0c, Z0d, Z0e, Z0f, Z0g, Z0h, Z0i, Z0j, Z0k, Z0l, Z0m, Z0n, Z0o, Z0p, Z0q, Z0r, Z0s, Z0t, Z0u, Z0v, Z0w, Z0x, Z0y, Z0z, Z10, Z11, Z12, Z13, Z14, Z15, Z16, Z17, Z18, Z19, ↓reduceIte, Nat.reduceEqDiff, Z1a, Z1b, Z1c, Z1d, Z1e, Z1f, Z1g, Z1h, Z1i, Z1j, Z1k, Z1l, Z1m, Z1n, Z1o, Z1p, Z1q, Z1r, Z1s, Z1t, Z1u, Z1v, Z1w, Z1x, Z1y, Z1z, Z20, Z21, Z22, Z23, Z24, Z25, Z26, Z27, Z28, Z29, Z2a]; simp
  · simp -dsimp -implicitDefEqProofs only [Z00, Z01, Z02, Z03, Z04, Z05, Z06, Z07, Z08, Z09, Z0a, Z0b, Z0c, Z0d, Z0e, Z0f, Z0g, Z0h, Z0i, Z0j, Z0k, Z0l, Z0m, Z0n, Z0o, Z0p, Z0q, Z0r, Z0s, Z0t, Z0u, Z0v, Z0w, Z0x, Z0y, Z0z, Z10, Z11, Z12, Z13, Z14, Z15, Z16, Z17, Z18, Z19, ↓reduceIte, Nat.reduceEqDiff, Z1a, Z1b, Z1c, Z1d, Z1e, Z1f, Z1g, Z1h, Z1i, Z1j, Z1k, Z1l, Z1m, Z1n, Z1o, Z1p, Z1q, Z1r, Z1s, Z1t, Z1u, Z1v, Z1w, Z1x, Z1y, Z1z, Z20, Z21, Z22, Z23, Z24, Z25, Z26, Z27, Z28, Z29, Z2a]; rfl
  rintro ρ h1 ⟨i, hch, hown, hi, e0, e1, e5⟩
  simp -dsimp -implicitDefEqProofs only [Z00, Z01, Z02, Z03, Z04, Z05, Z06, Z07, Z08, Z09, Z0a, Z0b, Z0c, Z0d, Z0e, Z0f, Z0g, Z0h, Z0i, Z0j, Z0k, Z0l, Z0m, Z0n, Z0o, Z0p, Z0q, Z0r, Z0s, Z0t, Z0u, Z0v, Z0w, Z0x, Z0y, Z0z, Z10, Z11, Z12, Z13, Z14, Z15, Z16, Z17, Z18, Z19, ↓reduceIte, Nat.reduceEqDiff, Z1a, Z1b, Z1c, Z1d, Z1e, Z1f, Z1g, Z1h, Z1i, Z1j, Z1k, Z1l, Z1m, Z1n, Z1o, Z1p, Z1q, Z1r, Z1s, Z1t, Z1u, Z1v, Z1w, Z1x, Z1y, Z1z, Z20, Z21, Z22, Z23, Z24, Z25, Z26, Z27, Z28, Z29, Z2a, e0, e1, e5]
  have hlen : (mkK (ks.take i) k ++ ks.drop i).length = ks.length := by
    simp only [List.length_append, mkK_len, List.length_take, List.length_drop]; omega
  refine ifW_intro (fun hc => ?_) (fun hc => ?_)
  · simp only [decide_eq_true_eq] at hc
    have hi2 : i < ks.length := by omega
    simp -dsimp -implicitDefEqProofs only [Z00, Z01, Z02, Z03, Z04, Z05, Z06, Z07, Z08, Z09, Z0a, Z0b, Z0c, Z0d, Z0e, Z0f, Z0g, Z0h, Z0i, Z0j, Z0k, Z0l, Z0m, Z0n, Z0o, Z0p, Z0q, Z0r, Z0s, Z0t, Z0u, Z0v, Z0w, Z0x, Z0y, Z0z, Z10, Z11, Z12, Z13, Z14, Z15, Z16, Z17, Z18, Z19, ↓reduceIte, Nat.reduceEqDiff, Z1a, Z1b, Z1c, Z1d, Z1e, Z1f, Z1g, Z1h, Z1i, Z1j, Z1k, Z1l, Z1m, Z1n, Z1o, Z1p, Z1q, Z1r, Z1s, Z1t, Z1u, Z1v, Z1w, Z1x, Z1y, Z1z, Z20, Z21, Z22, Z23, Z24, Z25, Z26, Z27, Z28, Z29, Z2a, e0, e1, e5]
    refine callT_of (c67 (by omega) (by omega)) ?_
    rintro r h2 - ⟨ext2, rfl⟩
    rcases own_keys_inv hown with ⟨e, _, _⟩ | ⟨n, c, opn, cap2, ev, rfl, hat, hcl, hcap, hct⟩
    · rw [e] at hlen; simp at hlen; omega
    have hn : n < h.size := hF n (by simp)
    have hch1 := hch.1
    simp only [Value.slice.injEq] at ev
    obtain ⟨rfl, _, rfl⟩ := ev
    have hat2 := (ext2.old n (by omega)).trans hat
    have hi3 : i < c.length := by omega
    simp -dsimp -implicitDefEqProofs only [Z00, Z01, Z02, Z03, Z04, Z05, Z06, Z07, Z08, Z09, Z0a, Z0b, Z0c, Z0d, Z0e, Z0f, Z0g, Z0h, Z0i, Z0j, Z0k, Z0l, Z0m, Z0n, Z0o, Z0p, Z0q, Z0r, Z0s, Z0t, Z0u, Z0v, Z0w, Z0x, Z0y, Z0z, Z10, Z11, Z12, Z13, Z14, Z15, Z16, Z17, Z18, Z19, ↓reduceIte, Nat.reduceEqDiff, Z1a, Z1b, Z1c, Z1d, Z1e, Z1f, Z1g, Z1h, Z1i, Z1j, Z1k, Z1l, Z1m, Z1n, Z1o, Z1p, Z1q, Z1r, Z1s, Z1t, Z1u, Z1v, Z1w, Z1x, Z1y, Z1z, Z20, Z21, Z22, Z23, Z24, Z25, Z26, Z27, Z28, Z29, Z2a, e0, e1, e5, s_iaddr (Int.natCast_nonneg i) hc, hat2, Nat.mul_one, Nat.zero_add, Int.toNat_natCast, st_one (x := .string _) rfl hi3]
    rw [wrap64 (by omega) (by omega), wrap64 (by omega) (by omega)]
    have hs2 := ext2.size
    refine ⟨⟨i + 1, ⟨by rw [set_size]; omega, fun m hm hmF => ?_⟩, ?_, hi2, trivial, by congr 1; push_cast; omega, rfl⟩, ?_⟩
    · rw [set_other (by simpa using hmF), ext2.old m (by omega), hch.2 m hm hmF]
    · rw [← mkK_step ks k i hi2]
      have hl2 : ((mkK (ks.take i) k ++ ks.drop i).set i (mt (k + i))).length = ks.length := by simpa using hlen
      have := own_keys (ss := (mkK (ks.take i) k ++ ks.drop i).set i (mt (k + i))) (cap := cap) (h := h2.set n (.cells (c.set i (.string (mt (k + i)))) 1 opn true)) set_same (by simpa using hcl) (by omega) (by
        rw [hl2, List.take_set, ← hlen, hct, List.map_set])
      rw [hl2] at this
      exact this
    · simp only [intOf]; omega
  · simp only [decide_eq_false_iff_not] at hc
    have : i = ks.length := by omega
    subst this
    rw [List.take_length, List.drop_length, List.append_nil] at hown
    simp -dsimp -implicitDefEqProofs only [Z00, Z01, Z02, Z03, Z04, Z05, Z06, Z07, Z08, Z09, Z0a, Z0b, Z0c, Z0d, Z0e, Z0f, Z0g, Z0h, Z0i, Z0j, Z0k, Z0l, Z0m, Z0n, Z0o, Z0p, Z0q, Z0r, Z0s, Z0t, Z0u, Z0v, Z0w, Z0x, Z0y, Z0z, Z10, Z11, Z12, Z13, Z14, Z15, Z16, Z17, Z18, Z19, ↓reduceIte, Nat.reduceEqDiff, Z1a, Z1b, Z1c, Z1d, Z1e, Z1f, Z1g, Z1h, Z1i, Z1j, Z1k, Z1l, Z1m, Z1n, Z1o, Z1p, Z1q, Z1r, Z1s, Z1t, Z1u, Z1v, Z1w, Z1x, Z1y, Z1z, Z20, Z21, Z22, Z23, Z24, Z25, Z26, Z27, Z28, Z29, Z2a, retK, resC, resV, e0, e1, e5]
    exact ⟨hch, trivial, hown⟩

end Go.Proofs.Ytdfmdclfnhgjiaa.Can
