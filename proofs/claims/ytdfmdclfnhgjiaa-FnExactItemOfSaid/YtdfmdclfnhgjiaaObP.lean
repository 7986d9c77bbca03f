/- Which objects are right, as the program tells it.
   Conditions: those that each law names. -/
import Derived.Test.YtdfmdclfnhgjiaaObN
import Derived.Test.YtdfmdclfnhgjiaaObE
set_option linter.unusedVariables false
set_option linter.unusedSimpArgs false
namespace Go.Proofs.Ytdfmdclfnhgjiaa.Can
open Go

/-! ### Plain law -/
def ltS (a b : ByteArray) : Bool := Op.bytesLess a.toList b.toList
def kat (ks : List ByteArray) (i : Nat) : ByteArray := ks[i]?.getD ⟨#[]⟩
def keyB (ks : List ByteArray) (i : Nat) : Bool := wordB (kat ks i) && (decide (i = 0) || ltS (kat ks (i - 1)) (kat ks i))
def keysB (ks : List ByteArray) : Bool := decide (∀ i, i < ks.length → keyB ks i = true)
theorem keysB_bad {ks : List ByteArray} {i : Nat} (hi : i < ks.length) (h : keyB ks i = false) : keysB ks = false := by
  have : ¬ ∀ j, j < ks.length → keyB ks j = true := fun q => by rw [q i hi] at h; cases h
  simp only [keysB, decide_eq_false this]
theorem keysB_good {ks : List ByteArray} (h : ∀ j, j < ks.length → keyB ks j = true) : keysB ks = true := by
  simp only [keysB, decide_eq_true h]
def fieldsB : OT → Bool
  | .mk a b t ks kd =>
    if (decide (a ≠ 8) && decide (0 < ks.length)) || (decide (a ≠ 8) && decide (a ≠ 7) && decide (0 < kd.length)) then false else
    if a = 1 ∨ a = 2 ∨ a = 3 ∨ a = 7 then decide (b = 0) && decide (t = ⟨#[]⟩) else
    if a = 4 then inB b (-1000000000) 1000000000 && decide (t = ⟨#[]⟩) else
    if a = 5 then decide (b = 0) && wordB t else
    if a = 6 then decide (b = 0) && decide (t.size ≤ 200) else
    if a = 8 then decide (b = 0) && decide (t = ⟨#[]⟩) && decide (ks.length = kd.length) && keysB ks else
    decide (a = 9) && inB b 1 1000000000 && decide (t = ⟨#[]⟩)

section
variable {P : Program} {h : CH} {L : Value → CH → Prop}
theorem s_sgeqS {a b : ByteArray} {u : Tok L} : stepT P (.bin .geq) [.string a, .string b] h L u = L (.bool (!ltS a b)) h := by simp only [stepT, stepW, pureC, cbin, cstr, oW, ltS]
theorem s_slssS {a b : ByteArray} {u : Tok L} : stepT P (.bin .lss) [.string a, .string b] h L u = L (.bool (ltS a b)) h := by simp only [stepT, stepW, pureC, cbin, cstr, oW, ltS]
theorem kat_eq {ks : List ByteArray} {i : Nat} (hi : i < ks.length) : kat ks i = ks[i] := by simp [kat, hi]
theorem r_key {S : Nat → Prop} {ks : List ByteArray} {a : Option Addr} {len cap : Nat} {kd : IntKind} {i : Int} {u : Tok L} (g : Rd h S (encK ks) [.slice a len cap]) (hi0 : 0 ≤ i) (hi : i < ks.length)
    (hL : ∀ n o, S n → ldC o (h.at_ n) = some (.string (kat ks i.toNat)) → L (.pointer (some ⟨n, o, none⟩)) h) : stepT P (.iaddr 1) [.slice a len cap, .int kd i] h L u := by
  rw [encK_vals] at g
  refine r_iaddr g hi0 (by simpa using hi) fun n o hn hv => hL n o hn ?_
  rw [hv, kat_eq (by omega)]
  simp
theorem keys_len {S : Nat → Prop} {ks : List ByteArray} {a : Option Addr} {len cap : Nat} (g : Rd h S (encK ks) [.slice a len cap]) : len = ks.length := by
  obtain ⟨_, _, e⟩ := Rd.form g
  cases e; simp
end

theorem c96 {h : CH} {S : Nat → Prop} {ks : List ByteArray} {v : Value} (hs : Rd h S (encK ks) [v]) (hb : ks.length ≤ 9223372036854775807) (hk : ∀ s ∈ ks, okS s) : callW Try.prog 96 [v] h fun r h' => h' = h ∧ r = .bool (keysB ks) := by
  refine callW_of (wf _) Try.func96 m96_ok (by simp [m96]) ?_
  obtain ⟨a, cap, rfl⟩ := Rd.form hs
  have hl := keys_len hs
  simp -dsimp -implicitDefEqProofs (disch := omega) only [Z00, Z01, Z02, Z03, Z04, Z05, Z06, Z07, Z08, Z09, Z0a, Z0b, Z0c, Z0d, Z0e, Z0f, Z0g, Z0h, Z0i, Z0j, Z0k, Z2b, Z2c, Z0m, Z0n, Z0o, Z0p, Z0q, Z0r, Z0s, Z0t, Z0u, Z0v, Z0w, Z0x, Z0y, Z0z, Z10, Z11, Z12, Z13, Z14, Z15, Z16, Z17, Z18, Z19, ↓reduceIte, Nat.reduceEqDiff, Z1a, Z1b, Z1c, Z1d, Z1e, Z1f, Z1g, Z1h, Z1i, Z1j, Z1k, Z1l, Z1m, Z1n, Z1o, Z1p, Z1q, Z1r, Z1s, Z1t, Z1u, Z1v, Z1w, Z1x, Z1y, Z1z, Z20, Z21, Z22, Z23, Z24, Z25, Z26, Z27, Z28, Z29, Z2a, Z2d, retK, resC, resV, Z2h, Z2i, Z2j, Z2k, Z2l, Z2m, Z2n, Z2o, Z2p, Z2q, Z2r, Z2s, Z2t, Z2u, Z2v, Z2w, Z2x, Nat.reduceAdd, Nat.reduceLT, Nat.reduceLeDiff, Z2y, Z2z, Z30, Z31, Z32, Z33, Z34, Z35, Z36, Z37, Z38, Z39, m96_1, m96_2, m96_3, m96]
  rw [hl] at hs ⊢
  refine loopT_of (wpC_loop (fun ρ h1 => ∃ i : Nat, h1 = h ∧ ρ 0 = .slice a ks.length cap ∧ ρ 5 = .slice a ks.length cap ∧ ρ 6 = .int .i64 ks.length ∧ ρ 7 = .int .i64 i ∧ i ≤ ks.length ∧ ∀ j, j < i → keyB ks j = true) (fun ρ _ => ks.length - intOf (ρ 7)) ⟨0, rfl, ?_, ?_, ?_, ?_, Nat.zero_le _, by simp⟩ ?_)
  · simp -dsimp -implicitDefEqProofs (disch := omega) only [Z00, Z01, Z02, Z03, Z04, Z05, Z06, Z07, Z08, Z09, Z0a, Z0b, Z0c, Z0d, Z0e, Z0f, Z0g, Z0h, Z0i, Z0j, Z0k, Z2b, Z2c, Z0m, Z0n, Z0o, Z0p, Z0q, Z0r, Z0s, Z0t, Z0u, Z0v, Z0w, Z0x, Z0y, Z0z, Z10, Z11, Z12, Z13, Z14, Z15, Z16, Z17, Z18, Z19, ↓reduceIte, Nat.reduceEqDiff, Z1a, Z1b, Z1c, Z1d, Z1e, Z1f, Z1g, Z1h, Z1i, Z1j, Z1k, Z1l, Z1m, Z1n, Z1o, Z1p, Z1q, Z1r, Z1s, Z1t, Z1u, Z1v, Z1w, Z1x, Z1y, Z1z, Z20, Z21, Z22, Z23, Z24, Z25, Z26, Z27, Z28, Z29, Z2a, Z2d, retK, resC, resV, Z2h, Z2i, Z2j, Z2k, Z2l, Z2m, Z2n, Z2o, Z2p, Z2q, Z2r, Z2s, Z2t, Z2u, Z2v, Z2w, Z2x, Nat.reduceAdd, Nat.reduceLT, Nat.reduceLeDiff, Z2y, Z2z, Z30, Z31, Z32, Z33, Z34, Z35, Z36, Z37, Z38, Z39, m96_1, m96_2, m96_3, m96]
  · simp -dsimp -implicitDefEqProofs (disch := omega) only [Z00, Z01, Z02, Z03, Z04, Z05, Z06, Z07, Z08, Z09, Z0a, Z0b, Z0c, Z0d, Z0e, Z0f, Z0g, Z0h, Z0i, Z0j, Z0k, Z2b, Z2c, Z0m, Z0n, Z0o, Z0p, Z0q, Z0r, Z0s, Z0t, Z0u, Z0v, Z0w, Z0x, Z0y, Z0z, Z10, Z11, Z12, Z13, Z14, Z15, Z16, Z17, Z18, Z19, ↓reduceIte, Nat.reduceEqDiff, Z1a, Z1b, Z1c, Z1d, Z1e, Z1f, Z1g, Z1h, Z1i, Z1j, Z1k, Z1l, Z1m, Z1n, Z1o, Z1p, Z1q, Z1r, Z1s, Z1t, Z1u, Z1v, Z1w, Z1x, Z1y, Z1z, Z20, Z21, Z22, Z23, Z24, Z25, Z26, Z27, Z28, Z29, Z2a, Z2d, retK, resC, resV, Z2h, Z2i, Z2j, Z2k, Z2l, Z2m, Z2n, Z2o, Z2p, Z2q, Z2r, Z2s, Z2t, Z2u, Z2v, Z2w, Z2x, Nat.reduceAdd, Nat.reduceLT, Nat.reduceLeDiff, Z2y, Z2z, Z30, Z31, Z32, Z33, Z34, Z35, Z36, Z37, Z38, Z39, m96_1, m96_2, m96_3, m96]
  · simp -dsimp -implicitDefEqProofs (disch := omega) only [Z00, Z01, Z02, Z03, Z04, Z05, Z06, Z07, Z08, Z09, Z0a, Z0b, Z0c, Z0d, Z0e, Z0f, Z0g, Z0h, Z0i, Z0j, Z0k, Z2b, Z2c, Z0m, Z0n, Z0o, Z0p, Z0q, Z0r, Z0s, Z0t, Z0u, Z0v, Z0w, Z0x, Z0y, Z0z, Z10, Z11, Z12, Z13, Z14, Z15, Z16, Z17, Z18, Z19, ↓reduceIte, Nat.reduceEqDiff, Z1a, Z1b, Z1c, Z1d, Z1e, Z1f, Z1g, Z1h, Z1i, Z1j, Z1k, Z1l, Z1m, Z1n, Z1o, Z1p, Z1q, Z1r, Z1s, Z1t, Z1u, Z1v, Z1w, Z1x, Z1y, Z1z, Z20, Z21, Z22, Z23, Z24, Z25, Z26, Z27, Z28, Z29, Z2a, Z2d, retK, resC, resV, Z2h, Z2i, Z2j, Z2k, Z2l, Z2m, Z2n, Z2o, Z2p, Z2q, Z2r, Z2s, Z2t, Z2u, Z2v, Z2w, Z2x, Nat.reduceAdd, Nat.reduceLT, Nat.reduceLeDiff, Z2y, Z2z, Z30, Z31, Z32, Z33, Z34, Z35, Z36, Z37, Z38, Z39, m96_1, m96_2, m96_3, m96]
  · simp -dsimp -implicitDefEqProofs (disch := omega) only [Z00, Z01, Z02, Z03, Z04, Z05, Z06, Z07, Z08, Z09, Z0a, Z0b, Z0c, Z0d, Z0e, Z0f, Z0g, Z0h, Z0i, Z0j, Z0k, Z2b, Z2c, Z0m, Z0n, Z0o, Z0p, Z0q, Z0r, Z0s, Z0t, Z0u, Z0v, Z0w, Z0x, Z0y, Z0z, Z10, Z11, Z12, Z13, Z14, Z15, Z16, Z17, Z18, Z19, ↓reduceIte, Nat.reduceEqDiff, Z1a, Z1b, Z1c, Z1d, Z1e, Z1f, Z1g, Z1h, Z1i, Z1j, Z1k, Z1l, Z1m, Z1n, Z1o, Z1p, Z1q, Z1r, Z1s, Z1t, Z1u, Z1v, Z1w, Z1x, Z1y, Z1z, Z20, Z21, Z22, Z23, Z24, Z25, Z26, Z27, Z28, Z29, Z2a, Z2d, retK, resC, resV, Z2h, Z2i, Z2j, Z2k, Z2l, Z2m, Z2n, Z2o, Z2p, Z2q, Z2r, Z2s, Z2t, Z2u, Z2v, Z2w, Z2x, Nat.reduceAdd, Nat.reduceLT, Nat.reduceLeDiff, Z2y, Z2z, Z30, Z31, Z32, Z33, Z34, Z35, Z36, Z37, Z38, Z39, m96_1, m96_2, m96_3, m96]; rfl
  rintro ρ h1 ⟨i, rfl, e0, e5, e6, e7, hi, hall⟩
  by_cases hc : i < ks.length
  · have d1 : decide ((i : Int) < ks.length) = true := by simp; omega
    have hok : okS (kat ks i) := by rw [kat_eq hc]; exact hk _ (List.getElem_mem hc)
    simp -dsimp -implicitDefEqProofs (disch := omega) only [Z00, Z01, Z02, Z03, Z04, Z05, Z06, Z07, Z08, Z09, Z0a, Z0b, Z0c, Z0d, Z0e, Z0f, Z0g, Z0h, Z0i, Z0j, Z0k, Z2b, Z2c, Z0m, Z0n, Z0o, Z0p, Z0q, Z0r, Z0s, Z0t, Z0u, Z0v, Z0w, Z0x, Z0y, Z0z, Z10, Z11, Z12, Z13, Z14, Z15, Z16, Z17, Z18, Z19, ↓reduceIte, Nat.reduceEqDiff, Z1a, Z1b, Z1c, Z1d, Z1e, Z1f, Z1g, Z1h, Z1i, Z1j, Z1k, Z1l, Z1m, Z1n, Z1o, Z1p, Z1q, Z1r, Z1s, Z1t, Z1u, Z1v, Z1w, Z1x, Z1y, Z1z, Z20, Z21, Z22, Z23, Z24, Z25, Z26, Z27, Z28, Z29, Z2a, Z2d, retK, resC, resV, Z2h, Z2i, Z2j, Z2k, Z2l, Z2m, Z2n, Z2o, Z2p, Z2q, Z2r, Z2s, Z2t, Z2u, Z2v, Z2w, Z2x, Nat.reduceAdd, Nat.reduceLT, Nat.reduceLeDiff, Z2y, Z2z, Z30, Z31, Z32, Z33, Z34, Z35, Z36, Z37, Z38, Z39, m96_1, m96_2, m96_3, m96, e0, e5, e6, e7, d1]
    refine r_key hs (by omega) (by omega) fun n o hn hv => ?_
    simp only [Int.toNat_natCast] at hv
    simp -dsimp -implicitDefEqProofs (disch := omega) only [Z00, Z01, Z02, Z03, Z04, Z05, Z06, Z07, Z08, Z09, Z0a, Z0b, Z0c, Z0d, Z0e, Z0f, Z0g, Z0h, Z0i, Z0j, Z0k, Z2b, Z2c, Z0m, Z0n, Z0o, Z0p, Z0q, Z0r, Z0s, Z0t, Z0u, Z0v, Z0w, Z0x, Z0y, Z0z, Z10, Z11, Z12, Z13, Z14, Z15, Z16, Z17, Z18, Z19, ↓reduceIte, Nat.reduceEqDiff, Z1a, Z1b, Z1c, Z1d, Z1e, Z1f, Z1g, Z1h, Z1i, Z1j, Z1k, Z1l, Z1m, Z1n, Z1o, Z1p, Z1q, Z1r, Z1s, Z1t, Z1u, Z1v, Z1w, Z1x, Z1y, Z1z, Z20, Z21, Z22, Z23, Z24, Z25, Z26, Z27, Z28, Z29, Z2a, Z2d, retK, resC, resV, Z2h, Z2i, Z2j, Z2k, Z2l, Z2m, Z2n, Z2o, Z2p, Z2q, Z2r, Z2s, Z2t, Z2u, Z2v, Z2w, Z2x, Nat.reduceAdd, Nat.reduceLT, Nat.reduceLeDiff, Z2y, Z2z, Z30, Z31, Z32, Z33, Z34, Z35, Z36, Z37, Z38, Z39, m96_1, m96_2, m96_3, m96, e0, e5, e6, e7, d1, hv]
    refine callT_pure (c95 hok) ?_
    cases hp : wordB (kat ks i)
    · simp -dsimp -implicitDefEqProofs (disch := omega) only [Z00, Z01, Z02, Z03, Z04, Z05, Z06, Z07, Z08, Z09, Z0a, Z0b, Z0c, Z0d, Z0e, Z0f, Z0g, Z0h, Z0i, Z0j, Z0k, Z2b, Z2c, Z0m, Z0n, Z0o, Z0p, Z0q, Z0r, Z0s, Z0t, Z0u, Z0v, Z0w, Z0x, Z0y, Z0z, Z10, Z11, Z12, Z13, Z14, Z15, Z16, Z17, Z18, Z19, ↓reduceIte, Nat.reduceEqDiff, Z1a, Z1b, Z1c, Z1d, Z1e, Z1f, Z1g, Z1h, Z1i, Z1j, Z1k, Z1l, Z1m, Z1n, Z1o, Z1p, Z1q, Z1r, Z1s, Z1t, Z1u, Z1v, Z1w, Z1x, Z1y, Z1z, Z20, Z21, Z22, Z23, Z24, Z25, Z26, Z27, Z28, Z29, Z2a, Z2d, retK, resC, resV, Z2h, Z2i, Z2j, Z2k, Z2l, Z2m, Z2n, Z2o, Z2p, Z2q, Z2r, Z2s, Z2t, Z2u, Z2v, Z2w, Z2x, Nat.reduceAdd, Nat.reduceLT, Nat.reduceLeDiff, Z2y, Z2z, Z30, Z31, Z32, Z33, Z34, Z35, Z36, Z37, Z38, Z39, m96_1, m96_2, m96_3, m96, e0, e5, e6, e7, d1, hv, hp]
      rw [keysB_bad hc (by simp [keyB, hp])]
      exact ⟨by trivial, rfl⟩
    by_cases h0 : i = 0
    · subst h0
      have d2 : decide (((0 : Nat) : Int) > 0) = false := by simp
      simp -dsimp -implicitDefEqProofs (disch := omega) only [Z00, Z01, Z02, Z03, Z04, Z05, Z06, Z07, Z08, Z09, Z0a, Z0b, Z0c, Z0d, Z0e, Z0f, Z0g, Z0h, Z0i, Z0j, Z0k, Z2b, Z2c, Z0m, Z0n, Z0o, Z0p, Z0q, Z0r, Z0s, Z0t, Z0u, Z0v, Z0w, Z0x, Z0y, Z0z, Z10, Z11, Z12, Z13, Z14, Z15, Z16, Z17, Z18, Z19, ↓reduceIte, Nat.reduceEqDiff, Z1a, Z1b, Z1c, Z1d, Z1e, Z1f, Z1g, Z1h, Z1i, Z1j, Z1k, Z1l, Z1m, Z1n, Z1o, Z1p, Z1q, Z1r, Z1s, Z1t, Z1u, Z1v, Z1w, Z1x, Z1y, Z1z, Z20, Z21, Z22, Z23, Z24, Z25, Z26, Z27, Z28, Z29, Z2a, Z2d, retK, resC, resV, Z2h, Z2i, Z2j, Z2k, Z2l, Z2m, Z2n, Z2o, Z2p, Z2q, Z2r, Z2s, Z2t, Z2u, Z2v, Z2w, Z2x, Nat.reduceAdd, Nat.reduceLT, Nat.reduceLeDiff, Z2y, Z2z, Z30, Z31, Z32, Z33, Z34, Z35, Z36, Z37, Z38, Z39, m96_1, m96_2, m96_3, m96, e0, e5, e6, e7, d1, hv, hp, d2]
      refine ⟨⟨1, by trivial, by trivial, by trivial, by trivial, rfl, by omega, lt_step hall ?_⟩, by simp only [intOf]; omega⟩
      simp [keyB, hp]
    · have d2 : decide ((i : Int) > 0) = true := by simp; omega
      simp -dsimp -implicitDefEqProofs (disch := omega) only [Z00, Z01, Z02, Z03, Z04, Z05, Z06, Z07, Z08, Z09, Z0a, Z0b, Z0c, Z0d, Z0e, Z0f, Z0g, Z0h, Z0i, Z0j, Z0k, Z2b, Z2c, Z0m, Z0n, Z0o, Z0p, Z0q, Z0r, Z0s, Z0t, Z0u, Z0v, Z0w, Z0x, Z0y, Z0z, Z10, Z11, Z12, Z13, Z14, Z15, Z16, Z17, Z18, Z19, ↓reduceIte, Nat.reduceEqDiff, Z1a, Z1b, Z1c, Z1d, Z1e, Z1f, Z1g, Z1h, Z1i, Z1j, Z1k, Z1l, Z1m, Z1n, Z1o, Z1p, Z1q, Z1r, Z1s, Z1t, Z1u, Z1v, Z1w, Z1x, Z1y, Z1z, Z20, Z21, Z22, Z23, Z24, Z25, Z26, Z27, Z28, Z29, Z2a, Z2d, retK, resC, resV, Z2h, Z2i, Z2j, Z2k, Z2l, Z2m, Z2n, Z2o, Z2p, Z2q, Z2r, Z2s, Z2t, Z2u, Z2v, Z2w, Z2x, Nat.reduceAdd, Nat.reduceLT, Nat.reduceLeDiff, Z2y, Z2z, Z30, Z31, Z32, Z33, Z34, Z35, Z36, Z37, Z38, Z39, m96_1, m96_2, m96_3, m96, e0, e5, e6, e7, d1, hv, hp, d2]
      refine r_key hs (by omega) (by omega) fun n2 o2 hn2 hv2 => ?_
      have e : ((i : Int) - 1).toNat = i - 1 := by omega
      rw [e] at hv2
      cases hq : ltS (kat ks (i - 1)) (kat ks i)
      · simp -dsimp -implicitDefEqProofs (disch := omega) only [Z00, Z01, Z02, Z03, Z04, Z05, Z06, Z07, Z08, Z09, Z0a, Z0b, Z0c, Z0d, Z0e, Z0f, Z0g, Z0h, Z0i, Z0j, Z0k, Z2b, Z2c, Z0m, Z0n, Z0o, Z0p, Z0q, Z0r, Z0s, Z0t, Z0u, Z0v, Z0w, Z0x, Z0y, Z0z, Z10, Z11, Z12, Z13, Z14, Z15, Z16, Z17, Z18, Z19, ↓reduceIte, Nat.reduceEqDiff, Z1a, Z1b, Z1c, Z1d, Z1e, Z1f, Z1g, Z1h, Z1i, Z1j, Z1k, Z1l, Z1m, Z1n, Z1o, Z1p, Z1q, Z1r, Z1s, Z1t, Z1u, Z1v, Z1w, Z1x, Z1y, Z1z, Z20, Z21, Z22, Z23, Z24, Z25, Z26, Z27, Z28, Z29, Z2a, Z2d, retK, resC, resV, Z2h, Z2i, Z2j, Z2k, Z2l, Z2m, Z2n, Z2o, Z2p, Z2q, Z2r, Z2s, Z2t, Z2u, Z2v, Z2w, Z2x, Nat.reduceAdd, Nat.reduceLT, Nat.reduceLeDiff, Z2y, Z2z, Z30, Z31, Z32, Z33, Z34, Z35, Z36, Z37, Z38, Z39, m96_1, m96_2, m96_3, m96, e0, e5, e6, e7, d1, hv, hp, d2, hv2, s_sgeqS, hq]
        rw [keysB_bad hc (by simp [keyB, hp, hq, h0])]
        exact ⟨by trivial, rfl⟩
      · simp -dsimp -implicitDefEqProofs (disch := omega) only [Z00, Z01, Z02, Z03, Z04, Z05, Z06, Z07, Z08, Z09, Z0a, Z0b, Z0c, Z0d, Z0e, Z0f, Z0g, Z0h, Z0i, Z0j, Z0k, Z2b, Z2c, Z0m, Z0n, Z0o, Z0p, Z0q, Z0r, Z0s, Z0t, Z0u, Z0v, Z0w, Z0x, Z0y, Z0z, Z10, Z11, Z12, Z13, Z14, Z15, Z16, Z17, Z18, Z19, ↓reduceIte, Nat.reduceEqDiff, Z1a, Z1b, Z1c, Z1d, Z1e, Z1f, Z1g, Z1h, Z1i, Z1j, Z1k, Z1l, Z1m, Z1n, Z1o, Z1p, Z1q, Z1r, Z1s, Z1t, Z1u, Z1v, Z1w, Z1x, Z1y, Z1z, Z20, Z21, Z22, Z23, Z24, Z25, Z26, Z27, Z28, Z29, Z2a, Z2d, retK, resC, resV, Z2h, Z2i, Z2j, Z2k, Z2l, Z2m, Z2n, Z2o, Z2p, Z2q, Z2r, Z2s, Z2t, Z2u, Z2v, Z2w, Z2x, Nat.reduceAdd, Nat.reduceLT, Nat.reduceLeDiff, Z2y, Z2z, Z30, Z31, Z32, Z33, Z34, Z35, Z36, Z37, Z38, Z39, m96_1, m96_2, m96_3, m96, e0, e5, e6, e7, d1, hv, hp, d2, hv2, s_sgeqS, hq]
        refine ⟨⟨i + 1, by trivial, by trivial, by trivial, by trivial, rfl, by omega, lt_step hall ?_⟩, by simp only [intOf]; omega⟩
        simp [keyB, hp, hq]
  · have d1 : decide ((i : Int) < ks.length) = false := by simp; omega
    have : i = ks.length := by omega
    subst this
    simp -dsimp -implicitDefEqProofs (disch := omega) only [Z00, Z01, Z02, Z03, Z04, Z05, Z06, Z07, Z08, Z09, Z0a, Z0b, Z0c, Z0d, Z0e, Z0f, Z0g, Z0h, Z0i, Z0j, Z0k, Z2b, Z2c, Z0m, Z0n, Z0o, Z0p, Z0q, Z0r, Z0s, Z0t, Z0u, Z0v, Z0w, Z0x, Z0y, Z0z, Z10, Z11, Z12, Z13, Z14, Z15, Z16, Z17, Z18, Z19, ↓reduceIte, Nat.reduceEqDiff, Z1a, Z1b, Z1c, Z1d, Z1e, Z1f, Z1g, Z1h, Z1i, Z1j, Z1k, Z1l, Z1m, Z1n, Z1o, Z1p, Z1q, Z1r, Z1s, Z1t, Z1u, Z1v, Z1w, Z1x, Z1y, Z1z, Z20, Z21, Z22, Z23, Z24, Z25, Z26, Z27, Z28, Z29, Z2a, Z2d, retK, resC, resV, Z2h, Z2i, Z2j, Z2k, Z2l, Z2m, Z2n, Z2o, Z2p, Z2q, Z2r, Z2s, Z2t, Z2u, Z2v, Z2w, Z2x, Nat.reduceAdd, Nat.reduceLT, Nat.reduceLeDiff, Z2y, Z2z, Z30, Z31, Z32, Z33, Z34, Z35, Z36, Z37, Z38, Z39, m96_1, m96_2, m96_3, m96, e0, e5, e6, e7, d1]
    rw [keysB_good hall]
    exact ⟨by trivial, rfl⟩

/-- What the objects' law asks of a machine's own sizes. -/
theorem okO_parts {a b : Int} {t : ByteArray} {ks : List ByteArray} {kd : List OT} (h : okO (.mk a b t ks kd)) : okS t ∧ ks.length ≤ 9223372036854775807 ∧ (∀ s ∈ ks, okS s) ∧ kd.length ≤ 9223372036854775807 ∧ okL kd := by simpa only [okO] using h

theorem c81 {h : CH} {S : Nat → Prop} {cs : List Value} {o : OT} (hs : Rd h S (encO o) cs) (hS : ∀ n, S n → n < h.size) (ho : okO o) : callW Try.prog 81 [.agg cs.toArray] h fun r h' => Ext h h' ∧ r = .bool (fieldsB o) := by
  refine callW_of (wf _) Try.func81 m81_ok (by simp [m81]) ?_
  obtain ⟨a, b, t, ks, kd⟩ := o
  obtain ⟨z1, z2, z3, z4, z5⟩ := okO_parts ho
  have hones := hs.ones
  obtain ⟨vk, vl, rfl, hk, hd⟩ := hs.obj
  obtain ⟨ak, ck, rfl⟩ := Rd.form hk
  obtain ⟨al, cl, rfl⟩ := Rd.form hd
  simp only [List.length_map, encL_len] at *
  simp -dsimp -implicitDefEqProofs (disch := omega) only [Z00, Z01, Z02, Z03, Z04, Z05, Z06, Z07, Z08, Z09, Z0a, Z0b, Z0c, Z0d, Z0e, Z0f, Z0g, Z0h, Z0i, Z0j, Z0k, Z2b, Z2c, Z0m, Z0n, Z0o, Z0p, Z0q, Z0r, Z0s, Z0t, Z0u, Z0v, Z0w, Z0x, Z0y, Z0z, Z10, Z11, Z12, Z13, Z14, Z15, Z16, Z17, Z18, Z19, ↓reduceIte, Nat.reduceEqDiff, Z1a, Z1b, Z1c, Z1d, Z1e, Z1f, Z1g, Z1h, Z1i, Z1j, Z1k, Z1l, Z1m, Z1n, Z1o, Z1p, Z1q, Z1r, Z1s, Z1t, Z1u, Z1v, Z1w, Z1x, Z1y, Z1z, Z20, Z21, Z22, Z23, Z24, Z25, Z26, Z27, Z28, Z29, Z2a, Z2d, retK, resC, resV, Z2h, Z2i, Z2j, Z2k, Z2l, Z2m, Z2n, Z2o, Z2p, Z2q, Z2r, Z2s, Z2t, Z2u, Z2v, Z2w, Z2x, Nat.reduceAdd, Nat.reduceLT, Nat.reduceLeDiff, Z2y, Z2z, Z30, Z31, Z32, Z33, Z34, Z35, Z36, Z37, Z38, Z39, m81_1, m81_2, m81_3, m81]
  rw [s_box hones]
  obtain ⟨h1, hh⟩ : ∃ h1, h1 = h.push (.cells [.int .i64 a, .int .i64 b, .string t, .slice ak ks.length ck, .slice al kd.length cl] 5 false true) := ⟨_, rfl⟩
  have ext1 : Ext h h1 := by rw [hh]; exact Ext.push _ _
  have at1 : h1.at_ h.size = .cells [.int .i64 a, .int .i64 b, .string t, .slice ak ks.length ck, .slice al kd.length cl] 5 false true := by rw [hh]; exact push_new
  rw [← hh]
  clear hh
  have hk1 := hk.ext hS ext1
  have dk : decide ((ks.length : Int) > 0) = decide (0 < ks.length) := by rw [decide_eq_decide]; omega
  have dd : decide ((kd.length : Int) > 0) = decide (0 < kd.length) := by rw [decide_eq_decide]; omega
  have d2 : decide ((t.size : Int) ≤ 200) = decide (t.size ≤ 200) := by rw [decide_eq_decide]; omega
  have d3 : ((ks.length : Int) == (kd.length : Int)) = decide (ks.length = kd.length) := by rw [Bool.eq_iff_iff, beq_iff_eq, decide_eq_true_eq]; omega
  have db : ((b : Int) == 0) = decide (b = 0) := by rw [Bool.eq_iff_iff]; simp
  simp -dsimp -implicitDefEqProofs (disch := omega) only [Z00, Z01, Z02, Z03, Z04, Z05, Z06, Z07, Z08, Z09, Z0a, Z0b, Z0c, Z0d, Z0e, Z0f, Z0g, Z0h, Z0i, Z0j, Z0k, Z2b, Z2c, Z0m, Z0n, Z0o, Z0p, Z0q, Z0r, Z0s, Z0t, Z0u, Z0v, Z0w, Z0x, Z0y, Z0z, Z10, Z11, Z12, Z13, Z14, Z15, Z16, Z17, Z18, Z19, ↓reduceIte, Nat.reduceEqDiff, Z1a, Z1b, Z1c, Z1d, Z1e, Z1f, Z1g, Z1h, Z1i, Z1j, Z1k, Z1l, Z1m, Z1n, Z1o, Z1p, Z1q, Z1r, Z1s, Z1t, Z1u, Z1v, Z1w, Z1x, Z1y, Z1z, Z20, Z21, Z22, Z23, Z24, Z25, Z26, Z27, Z28, Z29, Z2a, Z2d, retK, resC, resV, Z2h, Z2i, Z2j, Z2k, Z2l, Z2m, Z2n, Z2o, Z2p, Z2q, Z2r, Z2s, Z2t, Z2u, Z2v, Z2w, Z2x, Nat.reduceAdd, Nat.reduceLT, Nat.reduceLeDiff, Z2y, Z2z, Z30, Z31, Z32, Z33, Z34, Z35, Z36, Z37, Z38, Z39, m81_1, m81_2, m81_3, m81, at1, dk, dd, d2, d3, db]
  clear dk dd db
  repeat' (first | (refine ifW_intro (fun hc => ?_) (fun hc => ?_)) | (refine callT_pure c94 ?_) | (refine callT_pure (c95 z1) ?_) | (refine callT_pure (c96 hk1 z2 z3) ?_) | simp -dsimp -implicitDefEqProofs (disch := omega) only [Z00, Z01, Z02, Z03, Z04, Z05, Z06, Z07, Z08, Z09, Z0a, Z0b, Z0c, Z0d, Z0e, Z0f, Z0g, Z0h, Z0i, Z0j, Z0k, Z2b, Z2c, Z0m, Z0n, Z0o, Z0p, Z0q, Z0r, Z0s, Z0t, Z0u, Z0v, Z0w, Z0x, Z0y, Z0z, Z10, Z11, Z12, Z13, Z14, Z15, Z16, Z17, Z18, Z19, ↓reduceIte, Nat.reduceEqDiff, Z1a, Z1b, Z1c, Z1d, Z1e, Z1f, Z1g, Z1h, Z1i, Z1j, Z1k, Z1l, Z1m, Z1n, Z1o, Z1p, Z1q, Z1r, Z1s, Z1t, Z1u, Z1v, Z1w, Z1x, Z1y, Z1z, Z20, Z21, Z22, Z23, Z24, Z25, Z26, Z27, Z28, Z29, Z2a, Z2d, retK, resC, resV, Z2h, Z2i, Z2j, Z2k, Z2l, Z2m, Z2n, Z2o, Z2p, Z2q, Z2r, Z2s, Z2t, Z2u, Z2v, Z2w, Z2x, Nat.reduceAdd, Nat.reduceLT, Nat.reduceLeDiff, Z2y, Z2z, Z30, Z31, Z32, Z33, Z34, Z35, Z36, Z37, Z38, Z39, Int.reduceBEq, Int.reduceBNe, Int.reduceLT, Int.reduceLE, Int.reduceEq, Int.reduceNeg, Z3a, Z3b, Int.reduceGT, Int.reduceGE, Z3c, Z3d, m81_1, m81_2, m81_3, m81, *])
  all_goals (refine ⟨by first | trivial | exact ext1, ?_⟩)
  all_goals (clear hs hones hk hd hk1 at1 ext1 hS ho z1 z2 z3 z4 z5)
  all_goals (try simp only [beq_iff_eq, beq_eq_false_iff_ne, bne_iff_ne, bne_eq_false_iff_eq, decide_eq_true_eq, decide_eq_false_iff_not, ne_eq, gt_iff_lt, not_lt] at *)
  all_goals (try (simp_all [fieldsB]; done))
end Go.Proofs.Ytdfmdclfnhgjiaa.Can
