/- Words and keys of objects: what is right.
   Conditions: those that each law names. -/
import Derived.Test.YtdfmdclfnhgjiaaM2
import Derived.Test.YtdfmdclfnhgjiaaCanV
import Derived.Test.YtdfmdclfnhgjiaaObA
import Derived.Lib.Bytealg
import Derived.WalkKit
import Derived.Lib.Walk
import Derived.BigCall
import Derived.BigGuard
set_option linter.unusedVariables false
set_option linter.unusedSimpArgs false
namespace Go.Proofs.Ytdfmdclfnhgjiaa.Can
open Go

/-! ### Plain law -/
def inB (n lo hi : Int) : Bool := decide (lo ≤ n) && decide (n ≤ hi)
def markB (c : Nat) : Bool := c == 40 || c == 41 || c == 60 || c == 62 || c == 91 || c == 93 || c == 123 || c == 125 || c == 47 || c == 37
def plainB (c : Nat) : Bool := decide (33 ≤ c) && decide (c ≤ 126) && !markB c
def goodB (c : Nat) : Bool := plainB c && !(c == 35)
def wordB (s : ByteArray) : Bool := decide (∀ j, j < s.size → goodB (byt s j) = true) && inB s.size 1 40
theorem wordB_bad {s : ByteArray} {i : Nat} (hi : i < s.size) (h : goodB (byt s i) = false) : wordB s = false := by
  have : ¬ ∀ j, j < s.size → goodB (byt s j) = true := fun q => by rw [q i hi] at h; cases h
  simp only [wordB, decide_eq_false this, Bool.false_and]
theorem wordB_good {s : ByteArray} (h : ∀ j, j < s.size → goodB (byt s j) = true) : wordB s = inB s.size 1 40 := by
  simp only [wordB, decide_eq_true h, Bool.true_and]
theorem wordB_long {s : ByteArray} (h : ¬ s.size ≤ 40) : wordB s = false := by
  have : inB s.size 1 40 = false := by simp [inB]; omega
  rw [wordB, this, Bool.and_false]
theorem lt_step {p : Nat → Prop} {i : Nat} (h : ∀ j, j < i → p j) (hi : p i) : ∀ j, j < i + 1 → p j := fun j hj => by
  rcases Nat.lt_succ_iff_lt_or_eq.1 hj with q | rfl
  · exact h j q
  · exact hi

theorem c94 {h : CH} {n lo hi : Int} : callW Try.prog 94 [.int .i64 n, .int .i64 lo, .int .i64 hi] h fun r h' => h' = h ∧ r = .bool (inB n lo hi) := by
  refine callW_of (wf _) Try.func94 m94_ok (by simp [m94]) ?_
  simp -dsimp -implicitDefEqProofs (disch := omega) only [Z00, Z01, Z02, Z03, Z04, Z05, Z06, Z07, Z08, Z09, Z0a, Z0b, Z0c, Z0d, Z0e, Z0f, Z0g, Z0h, Z0i, Z0j, Z0k, Z2b, Z2c, Z0m, Z0n, Z0o, Z0p, Z0q, Z0r, Z0s, Z0t, Z0u, Z0v, Z0w, Z0x, Z0y, Z0z, Z10, Z11, Z12, Z13, Z14, Z15, Z16, Z17, Z18, Z19, ↓reduceIte, Nat.reduceEqDiff, Z1a, Z1b, Z1c, Z1d, Z1e, Z1f, Z1g, Z1h, Z1i, Z1j, Z1k, Z1l, Z1m, Z1n, Z1o, Z1p, Z1q, Z1r, Z1s, Z1t, Z1u, Z1v, Z1w, Z1x, Z1y, Z1z, Z20, Z21, Z22, Z23, Z24, Z25, Z26, Z27, Z28, Z29, Z2a, Z2d, retK, resC, resV, Z2h, Z2i, Z2j, Z2k, Z2l, Z2m, Z2n, Z2o, Z2p, Z2q, Z2r, Z2s, Z2t, Z2u, Z2v, Z2w, Z2x, Nat.reduceAdd, Nat.reduceLT, Nat.reduceLeDiff, Z2y, Z2z, Z30, Z31, Z32, Z33, Z34, Z35, Z36, Z37, Z38, Z39, m94]
  refine ifW_intro (fun hc => ?_) (fun hc => ?_) <;> (simp -dsimp -implicitDefEqProofs (disch := omega) only [Z00, Z01, Z02, Z03, Z04, Z05, Z06, Z07, Z08, Z09, Z0a, Z0b, Z0c, Z0d, Z0e, Z0f, Z0g, Z0h, Z0i, Z0j, Z0k, Z2b, Z2c, Z0m, Z0n, Z0o, Z0p, Z0q, Z0r, Z0s, Z0t, Z0u, Z0v, Z0w, Z0x, Z0y, Z0z, Z10, Z11, Z12, Z13, Z14, Z15, Z16, Z17, Z18, Z19, ↓reduceIte, Nat.reduceEqDiff, Z1a, Z1b, Z1c, Z1d, Z1e, Z1f, Z1g, Z1h, Z1i, Z1j, Z1k, Z1l, Z1m, Z1n, Z1o, Z1p, Z1q, Z1r, Z1s, Z1t, Z1u, Z1v, Z1w, Z1x, Z1y, Z1z, Z20, Z21, Z22, Z23, Z24, Z25, Z26, Z27, Z28, Z29, Z2a, Z2d, retK, resC, resV, Z2h, Z2i, Z2j, Z2k, Z2l, Z2m, Z2n, Z2o, Z2p, Z2q, Z2r, Z2s, Z2t, Z2u, Z2v, Z2w, Z2x, Nat.reduceAdd, Nat.reduceLT, Nat.reduceLeDiff, Z2y, Z2z, Z30, Z31, Z32, Z33, Z34, Z35, Z36, Z37, Z38, Z39, m94, hc]; simp only [decide_eq_true_eq, decide_eq_false_iff_not] at hc; simp [inB]; omega)
theorem c83 {h : CH} {n lo hi : Int} : callW Try.prog 83 [.int .i64 n, .int .i64 lo, .int .i64 hi] h fun r h' => h' = h ∧ r = .bool (inB n lo hi) := by
  refine callW_of (wf _) Try.func83 m83_ok (by simp [m83]) ?_
  simp -dsimp -implicitDefEqProofs (disch := omega) only [Z00, Z01, Z02, Z03, Z04, Z05, Z06, Z07, Z08, Z09, Z0a, Z0b, Z0c, Z0d, Z0e, Z0f, Z0g, Z0h, Z0i, Z0j, Z0k, Z2b, Z2c, Z0m, Z0n, Z0o, Z0p, Z0q, Z0r, Z0s, Z0t, Z0u, Z0v, Z0w, Z0x, Z0y, Z0z, Z10, Z11, Z12, Z13, Z14, Z15, Z16, Z17, Z18, Z19, ↓reduceIte, Nat.reduceEqDiff, Z1a, Z1b, Z1c, Z1d, Z1e, Z1f, Z1g, Z1h, Z1i, Z1j, Z1k, Z1l, Z1m, Z1n, Z1o, Z1p, Z1q, Z1r, Z1s, Z1t, Z1u, Z1v, Z1w, Z1x, Z1y, Z1z, Z20, Z21, Z22, Z23, Z24, Z25, Z26, Z27, Z28, Z29, Z2a, Z2d, retK, resC, resV, Z2h, Z2i, Z2j, Z2k, Z2l, Z2m, Z2n, Z2o, Z2p, Z2q, Z2r, Z2s, Z2t, Z2u, Z2v, Z2w, Z2x, Nat.reduceAdd, Nat.reduceLT, Nat.reduceLeDiff, Z2y, Z2z, Z30, Z31, Z32, Z33, Z34, Z35, Z36, Z37, Z38, Z39, m83]
  refine ifW_intro (fun hc => ?_) (fun hc => ?_) <;> (simp -dsimp -implicitDefEqProofs (disch := omega) only [Z00, Z01, Z02, Z03, Z04, Z05, Z06, Z07, Z08, Z09, Z0a, Z0b, Z0c, Z0d, Z0e, Z0f, Z0g, Z0h, Z0i, Z0j, Z0k, Z2b, Z2c, Z0m, Z0n, Z0o, Z0p, Z0q, Z0r, Z0s, Z0t, Z0u, Z0v, Z0w, Z0x, Z0y, Z0z, Z10, Z11, Z12, Z13, Z14, Z15, Z16, Z17, Z18, Z19, ↓reduceIte, Nat.reduceEqDiff, Z1a, Z1b, Z1c, Z1d, Z1e, Z1f, Z1g, Z1h, Z1i, Z1j, Z1k, Z1l, Z1m, Z1n, Z1o, Z1p, Z1q, Z1r, Z1s, Z1t, Z1u, Z1v, Z1w, Z1x, Z1y, Z1z, Z20, Z21, Z22, Z23, Z24, Z25, Z26, Z27, Z28, Z29, Z2a, Z2d, retK, resC, resV, Z2h, Z2i, Z2j, Z2k, Z2l, Z2m, Z2n, Z2o, Z2p, Z2q, Z2r, Z2s, Z2t, Z2u, Z2v, Z2w, Z2x, Nat.reduceAdd, Nat.reduceLT, Nat.reduceLeDiff, Z2y, Z2z, Z30, Z31, Z32, Z33, Z34, Z35, Z36, Z37, Z38, Z39, m83, hc]; simp only [decide_eq_true_eq, decide_eq_false_iff_not] at hc; simp [inB]; omega)

theorem c101 {h : CH} {c : Nat} : callW Try.prog 101 [.int .u8 c] h fun r h' => h' = h ∧ r = .bool (markB c) := by
  refine callW_of (wf _) Try.func101 m101_ok (by simp [m101]) ?_
  simp -dsimp -implicitDefEqProofs (disch := omega) only [Z00, Z01, Z02, Z03, Z04, Z05, Z06, Z07, Z08, Z09, Z0a, Z0b, Z0c, Z0d, Z0e, Z0f, Z0g, Z0h, Z0i, Z0j, Z0k, Z2b, Z2c, Z0m, Z0n, Z0o, Z0p, Z0q, Z0r, Z0s, Z0t, Z0u, Z0v, Z0w, Z0x, Z0y, Z0z, Z10, Z11, Z12, Z13, Z14, Z15, Z16, Z17, Z18, Z19, ↓reduceIte, Nat.reduceEqDiff, Z1a, Z1b, Z1c, Z1d, Z1e, Z1f, Z1g, Z1h, Z1i, Z1j, Z1k, Z1l, Z1m, Z1n, Z1o, Z1p, Z1q, Z1r, Z1s, Z1t, Z1u, Z1v, Z1w, Z1x, Z1y, Z1z, Z20, Z21, Z22, Z23, Z24, Z25, Z26, Z27, Z28, Z29, Z2a, Z2d, retK, resC, resV, Z2h, Z2i, Z2j, Z2k, Z2l, Z2m, Z2n, Z2o, Z2p, Z2q, Z2r, Z2s, Z2t, Z2u, Z2v, Z2w, Z2x, Nat.reduceAdd, Nat.reduceLT, Nat.reduceLeDiff, Z2y, Z2z, Z30, Z31, Z32, Z33, Z34, Z35, Z36, Z37, Z38, Z39, m101]
  iterate 9
    refine ifW_intro (fun hc => ?_) (fun hc => ?_)
    · simp -dsimp -implicitDefEqProofs (disch := omega) only [Z00, Z01, Z02, Z03, Z04, Z05, Z06, Z07, Z08, Z09, Z0a, Z0b, Z0c, Z0d, Z0e, Z0f, Z0g, Z0h, Z0i, Z0j, Z0k, Z2b, Z2c, Z0m, Z0n, Z0o, Z0p, Z0q, Z0r, Z0s, Z0t, Z0u, Z0v, Z0w, Z0x, Z0y, Z0z, Z10, Z11, Z12, Z13, Z14, Z15, Z16, Z17, Z18, Z19, ↓reduceIte, Nat.reduceEqDiff, Z1a, Z1b, Z1c, Z1d, Z1e, Z1f, Z1g, Z1h, Z1i, Z1j, Z1k, Z1l, Z1m, Z1n, Z1o, Z1p, Z1q, Z1r, Z1s, Z1t, Z1u, Z1v, Z1w, Z1x, Z1y, Z1z, Z20, Z21, Z22, Z23, Z24, Z25, Z26, Z27, Z28, Z29, Z2a, Z2d, retK, resC, resV, Z2h, Z2i, Z2j, Z2k, Z2l, Z2m, Z2n, Z2o, Z2p, Z2q, Z2r, Z2s, Z2t, Z2u, Z2v, Z2w, Z2x, Nat.reduceAdd, Nat.reduceLT, Nat.reduceLeDiff, Z2y, Z2z, Z30, Z31, Z32, Z33, Z34, Z35, Z36, Z37, Z38, Z39, m101, hc]
      simp only [beq_iff_eq] at hc
      exact ⟨trivial, by simp [markB]; omega⟩
    simp -dsimp -implicitDefEqProofs (disch := omega) only [Z00, Z01, Z02, Z03, Z04, Z05, Z06, Z07, Z08, Z09, Z0a, Z0b, Z0c, Z0d, Z0e, Z0f, Z0g, Z0h, Z0i, Z0j, Z0k, Z2b, Z2c, Z0m, Z0n, Z0o, Z0p, Z0q, Z0r, Z0s, Z0t, Z0u, Z0v, Z0w, Z0x, Z0y, Z0z, Z10, Z11, Z12, Z13, Z14, Z15, Z16, Z17, Z18, Z19, ↓reduceIte, Nat.reduceEqDiff, Z1a, Z1b, Z1c, Z1d, Z1e, Z1f, Z1g, Z1h, Z1i, Z1j, Z1k, Z1l, Z1m, Z1n, Z1o, Z1p, Z1q, Z1r, Z1s, Z1t, Z1u, Z1v, Z1w, Z1x, Z1y, Z1z, Z20, Z21, Z22, Z23, Z24, Z25, Z26, Z27, Z28, Z29, Z2a, Z2d, retK, resC, resV, Z2h, Z2i, Z2j, Z2k, Z2l, Z2m, Z2n, Z2o, Z2p, Z2q, Z2r, Z2s, Z2t, Z2u, Z2v, Z2w, Z2x, Nat.reduceAdd, Nat.reduceLT, Nat.reduceLeDiff, Z2y, Z2z, Z30, Z31, Z32, Z33, Z34, Z35, Z36, Z37, Z38, Z39, m101, hc]
    simp only [beq_eq_false_iff_ne] at hc
  refine ⟨trivial, ?_⟩
  congr 1
  rw [Bool.eq_iff_iff]
  simp [markB]
  omega
theorem c97 {h : CH} {c : Nat} : callW Try.prog 97 [.int .u8 c] h fun r h' => h' = h ∧ r = .bool (plainB c) := by
  refine callW_of (wf _) Try.func97 m97_ok (by simp [m97]) ?_
  simp -dsimp -implicitDefEqProofs (disch := omega) only [Z00, Z01, Z02, Z03, Z04, Z05, Z06, Z07, Z08, Z09, Z0a, Z0b, Z0c, Z0d, Z0e, Z0f, Z0g, Z0h, Z0i, Z0j, Z0k, Z2b, Z2c, Z0m, Z0n, Z0o, Z0p, Z0q, Z0r, Z0s, Z0t, Z0u, Z0v, Z0w, Z0x, Z0y, Z0z, Z10, Z11, Z12, Z13, Z14, Z15, Z16, Z17, Z18, Z19, ↓reduceIte, Nat.reduceEqDiff, Z1a, Z1b, Z1c, Z1d, Z1e, Z1f, Z1g, Z1h, Z1i, Z1j, Z1k, Z1l, Z1m, Z1n, Z1o, Z1p, Z1q, Z1r, Z1s, Z1t, Z1u, Z1v, Z1w, Z1x, Z1y, Z1z, Z20, Z21, Z22, Z23, Z24, Z25, Z26, Z27, Z28, Z29, Z2a, Z2d, retK, resC, resV, Z2h, Z2i, Z2j, Z2k, Z2l, Z2m, Z2n, Z2o, Z2p, Z2q, Z2r, Z2s, Z2t, Z2u, Z2v, Z2w, Z2x, Nat.reduceAdd, Nat.reduceLT, Nat.reduceLeDiff, Z2y, Z2z, Z30, Z31, Z32, Z33, Z34, Z35, Z36, Z37, Z38, Z39, m97]
  refine ifW_intro (fun hc => ?_) (fun hc => ?_)
  · simp -dsimp -implicitDefEqProofs (disch := omega) only [Z00, Z01, Z02, Z03, Z04, Z05, Z06, Z07, Z08, Z09, Z0a, Z0b, Z0c, Z0d, Z0e, Z0f, Z0g, Z0h, Z0i, Z0j, Z0k, Z2b, Z2c, Z0m, Z0n, Z0o, Z0p, Z0q, Z0r, Z0s, Z0t, Z0u, Z0v, Z0w, Z0x, Z0y, Z0z, Z10, Z11, Z12, Z13, Z14, Z15, Z16, Z17, Z18, Z19, ↓reduceIte, Nat.reduceEqDiff, Z1a, Z1b, Z1c, Z1d, Z1e, Z1f, Z1g, Z1h, Z1i, Z1j, Z1k, Z1l, Z1m, Z1n, Z1o, Z1p, Z1q, Z1r, Z1s, Z1t, Z1u, Z1v, Z1w, Z1x, Z1y, Z1z, Z20, Z21, Z22, Z23, Z24, Z25, Z26, Z27, Z28, Z29, Z2a, Z2d, retK, resC, resV, Z2h, Z2i, Z2j, Z2k, Z2l, Z2m, Z2n, Z2o, Z2p, Z2q, Z2r, Z2s, Z2t, Z2u, Z2v, Z2w, Z2x, Nat.reduceAdd, Nat.reduceLT, Nat.reduceLeDiff, Z2y, Z2z, Z30, Z31, Z32, Z33, Z34, Z35, Z36, Z37, Z38, Z39, m97, hc]
    refine ifW_intro (fun hd => ?_) (fun hd => ?_)
    · simp -dsimp -implicitDefEqProofs (disch := omega) only [Z00, Z01, Z02, Z03, Z04, Z05, Z06, Z07, Z08, Z09, Z0a, Z0b, Z0c, Z0d, Z0e, Z0f, Z0g, Z0h, Z0i, Z0j, Z0k, Z2b, Z2c, Z0m, Z0n, Z0o, Z0p, Z0q, Z0r, Z0s, Z0t, Z0u, Z0v, Z0w, Z0x, Z0y, Z0z, Z10, Z11, Z12, Z13, Z14, Z15, Z16, Z17, Z18, Z19, ↓reduceIte, Nat.reduceEqDiff, Z1a, Z1b, Z1c, Z1d, Z1e, Z1f, Z1g, Z1h, Z1i, Z1j, Z1k, Z1l, Z1m, Z1n, Z1o, Z1p, Z1q, Z1r, Z1s, Z1t, Z1u, Z1v, Z1w, Z1x, Z1y, Z1z, Z20, Z21, Z22, Z23, Z24, Z25, Z26, Z27, Z28, Z29, Z2a, Z2d, retK, resC, resV, Z2h, Z2i, Z2j, Z2k, Z2l, Z2m, Z2n, Z2o, Z2p, Z2q, Z2r, Z2s, Z2t, Z2u, Z2v, Z2w, Z2x, Nat.reduceAdd, Nat.reduceLT, Nat.reduceLeDiff, Z2y, Z2z, Z30, Z31, Z32, Z33, Z34, Z35, Z36, Z37, Z38, Z39, m97, hc, hd]
      refine callT_pure c101 ?_
      simp -dsimp -implicitDefEqProofs (disch := omega) only [Z00, Z01, Z02, Z03, Z04, Z05, Z06, Z07, Z08, Z09, Z0a, Z0b, Z0c, Z0d, Z0e, Z0f, Z0g, Z0h, Z0i, Z0j, Z0k, Z2b, Z2c, Z0m, Z0n, Z0o, Z0p, Z0q, Z0r, Z0s, Z0t, Z0u, Z0v, Z0w, Z0x, Z0y, Z0z, Z10, Z11, Z12, Z13, Z14, Z15, Z16, Z17, Z18, Z19, ↓reduceIte, Nat.reduceEqDiff, Z1a, Z1b, Z1c, Z1d, Z1e, Z1f, Z1g, Z1h, Z1i, Z1j, Z1k, Z1l, Z1m, Z1n, Z1o, Z1p, Z1q, Z1r, Z1s, Z1t, Z1u, Z1v, Z1w, Z1x, Z1y, Z1z, Z20, Z21, Z22, Z23, Z24, Z25, Z26, Z27, Z28, Z29, Z2a, Z2d, retK, resC, resV, Z2h, Z2i, Z2j, Z2k, Z2l, Z2m, Z2n, Z2o, Z2p, Z2q, Z2r, Z2s, Z2t, Z2u, Z2v, Z2w, Z2x, Nat.reduceAdd, Nat.reduceLT, Nat.reduceLeDiff, Z2y, Z2z, Z30, Z31, Z32, Z33, Z34, Z35, Z36, Z37, Z38, Z39, m97, hc, hd]
      simp only [decide_eq_true_eq] at hc hd
      simp [plainB]; omega
    · simp -dsimp -implicitDefEqProofs (disch := omega) only [Z00, Z01, Z02, Z03, Z04, Z05, Z06, Z07, Z08, Z09, Z0a, Z0b, Z0c, Z0d, Z0e, Z0f, Z0g, Z0h, Z0i, Z0j, Z0k, Z2b, Z2c, Z0m, Z0n, Z0o, Z0p, Z0q, Z0r, Z0s, Z0t, Z0u, Z0v, Z0w, Z0x, Z0y, Z0z, Z10, Z11, Z12, Z13, Z14, Z15, Z16, Z17, Z18, Z19, ↓reduceIte, Nat.reduceEqDiff, Z1a, Z1b, Z1c, Z1d, Z1e, Z1f, Z1g, Z1h, Z1i, Z1j, Z1k, Z1l, Z1m, Z1n, Z1o, Z1p, Z1q, Z1r, Z1s, Z1t, Z1u, Z1v, Z1w, Z1x, Z1y, Z1z, Z20, Z21, Z22, Z23, Z24, Z25, Z26, Z27, Z28, Z29, Z2a, Z2d, retK, resC, resV, Z2h, Z2i, Z2j, Z2k, Z2l, Z2m, Z2n, Z2o, Z2p, Z2q, Z2r, Z2s, Z2t, Z2u, Z2v, Z2w, Z2x, Nat.reduceAdd, Nat.reduceLT, Nat.reduceLeDiff, Z2y, Z2z, Z30, Z31, Z32, Z33, Z34, Z35, Z36, Z37, Z38, Z39, m97, hc, hd]
      simp only [decide_eq_true_eq, decide_eq_false_iff_not] at hc hd
      simp [plainB]; omega
  · simp -dsimp -implicitDefEqProofs (disch := omega) only [Z00, Z01, Z02, Z03, Z04, Z05, Z06, Z07, Z08, Z09, Z0a, Z0b, Z0c, Z0d, Z0e, Z0f, Z0g, Z0h, Z0i, Z0j, Z0k, Z2b, Z2c, Z0m, Z0n, Z0o, Z0p, Z0q, Z0r, Z0s, Z0t, Z0u, Z0v, Z0w, Z0x, Z0y, Z0z, Z10, Z11, Z12, Z13, Z14, Z15, Z16, Z17, Z18, Z19, ↓reduceIte, Nat.reduceEqDiff, Z1a, Z1b, Z1c, Z1d, Z1e, Z1f, Z1g, Z1h, Z1i, Z1j, Z1k, Z1l, Z1m, Z1n, Z1o, Z1p, Z1q, Z1r, Z1s, Z1t, Z1u, Z1v, Z1w, Z1x, Z1y, Z1z, Z20, Z21, Z22, Z23, Z24, Z25, Z26, Z27, Z28, Z29, Z2a, Z2d, retK, resC, resV, Z2h, Z2i, Z2j, Z2k, Z2l, Z2m, Z2n, Z2o, Z2p, Z2q, Z2r, Z2s, Z2t, Z2u, Z2v, Z2w, Z2x, Nat.reduceAdd, Nat.reduceLT, Nat.reduceLeDiff, Z2y, Z2z, Z30, Z31, Z32, Z33, Z34, Z35, Z36, Z37, Z38, Z39, m97, hc]
    simp only [decide_eq_false_iff_not] at hc
    simp [plainB]; omega

theorem c89 {h : CH} {s : ByteArray} (hs : s.size ≤ 9223372036854775807) : callW Try.prog 89 [.string s] h fun r h' => h' = h ∧ r = .bool (wordB s) := by
  refine callW_of (wf _) Try.func89 m89_ok (by simp [m89]) ?_
  simp -dsimp -implicitDefEqProofs (disch := omega) only [Z00, Z01, Z02, Z03, Z04, Z05, Z06, Z07, Z08, Z09, Z0a, Z0b, Z0c, Z0d, Z0e, Z0f, Z0g, Z0h, Z0i, Z0j, Z0k, Z2b, Z2c, Z0m, Z0n, Z0o, Z0p, Z0q, Z0r, Z0s, Z0t, Z0u, Z0v, Z0w, Z0x, Z0y, Z0z, Z10, Z11, Z12, Z13, Z14, Z15, Z16, Z17, Z18, Z19, ↓reduceIte, Nat.reduceEqDiff, Z1a, Z1b, Z1c, Z1d, Z1e, Z1f, Z1g, Z1h, Z1i, Z1j, Z1k, Z1l, Z1m, Z1n, Z1o, Z1p, Z1q, Z1r, Z1s, Z1t, Z1u, Z1v, Z1w, Z1x, Z1y, Z1z, Z20, Z21, Z22, Z23, Z24, Z25, Z26, Z27, Z28, Z29, Z2a, Z2d, retK, resC, resV, Z2h, Z2i, Z2j, Z2k, Z2l, Z2m, Z2n, Z2o, Z2p, Z2q, Z2r, Z2s, Z2t, Z2u, Z2v, Z2w, Z2x, Nat.reduceAdd, Nat.reduceLT, Nat.reduceLeDiff, Z2y, Z2z, Z30, Z31, Z32, Z33, Z34, Z35, Z36, Z37, Z38, Z39, m89_1, m89_2, m89_3, m89]
  refine loopT_of (wpC_loop (fun ρ h1 => ∃ i : Nat, h1 = h ∧ ρ 0 = .string s ∧ ρ 3 = .int .i64 i ∧ i ≤ s.size ∧ ∀ j, j < i → goodB (byt s j) = true) (fun ρ _ => s.size - intOf (ρ 3)) ⟨0, rfl, ?_, ?_, Nat.zero_le _, by simp⟩ ?_)
  · simp -dsimp -implicitDefEqProofs (disch := omega) only [Z00, Z01, Z02, Z03, Z04, Z05, Z06, Z07, Z08, Z09, Z0a, Z0b, Z0c, Z0d, Z0e, Z0f, Z0g, Z0h, Z0i, Z0j, Z0k, Z2b, Z2c, Z0m, Z0n, Z0o, Z0p, Z0q, Z0r, Z0s, Z0t, Z0u, Z0v, Z0w, Z0x, Z0y, Z0z, Z10, Z11, Z12, Z13, Z14, Z15, Z16, Z17, Z18, Z19, ↓reduceIte, Nat.reduceEqDiff, Z1a, Z1b, Z1c, Z1d, Z1e, Z1f, Z1g, Z1h, Z1i, Z1j, Z1k, Z1l, Z1m, Z1n, Z1o, Z1p, Z1q, Z1r, Z1s, Z1t, Z1u, Z1v, Z1w, Z1x, Z1y, Z1z, Z20, Z21, Z22, Z23, Z24, Z25, Z26, Z27, Z28, Z29, Z2a, Z2d, retK, resC, resV, Z2h, Z2i, Z2j, Z2k, Z2l, Z2m, Z2n, Z2o, Z2p, Z2q, Z2r, Z2s, Z2t, Z2u, Z2v, Z2w, Z2x, Nat.reduceAdd, Nat.reduceLT, Nat.reduceLeDiff, Z2y, Z2z, Z30, Z31, Z32, Z33, Z34, Z35, Z36, Z37, Z38, Z39, m89_1, m89_2, m89_3, m89]
  · simp -dsimp -implicitDefEqProofs (disch := omega) only [Z00, Z01, Z02, Z03, Z04, Z05, Z06, Z07, Z08, Z09, Z0a, Z0b, Z0c, Z0d, Z0e, Z0f, Z0g, Z0h, Z0i, Z0j, Z0k, Z2b, Z2c, Z0m, Z0n, Z0o, Z0p, Z0q, Z0r, Z0s, Z0t, Z0u, Z0v, Z0w, Z0x, Z0y, Z0z, Z10, Z11, Z12, Z13, Z14, Z15, Z16, Z17, Z18, Z19, ↓reduceIte, Nat.reduceEqDiff, Z1a, Z1b, Z1c, Z1d, Z1e, Z1f, Z1g, Z1h, Z1i, Z1j, Z1k, Z1l, Z1m, Z1n, Z1o, Z1p, Z1q, Z1r, Z1s, Z1t, Z1u, Z1v, Z1w, Z1x, Z1y, Z1z, Z20, Z21, Z22, Z23, Z24, Z25, Z26, Z27, Z28, Z29, Z2a, Z2d, retK, resC, resV, Z2h, Z2i, Z2j, Z2k, Z2l, Z2m, Z2n, Z2o, Z2p, Z2q, Z2r, Z2s, Z2t, Z2u, Z2v, Z2w, Z2x, Nat.reduceAdd, Nat.reduceLT, Nat.reduceLeDiff, Z2y, Z2z, Z30, Z31, Z32, Z33, Z34, Z35, Z36, Z37, Z38, Z39, m89_1, m89_2, m89_3, m89]; rfl
  rintro ρ h1 ⟨i, rfl, e0, e3, hi, hall⟩
  by_cases hc : i < s.size
  · have d1 : decide ((i : Int) < s.size) = true := by simp; omega
    by_cases hd : s.size ≤ 40
    · have d2 : decide ((s.size : Int) ≤ 40) = true := by simp; omega
      simp -dsimp -implicitDefEqProofs (disch := omega) only [Z00, Z01, Z02, Z03, Z04, Z05, Z06, Z07, Z08, Z09, Z0a, Z0b, Z0c, Z0d, Z0e, Z0f, Z0g, Z0h, Z0i, Z0j, Z0k, Z2b, Z2c, Z0m, Z0n, Z0o, Z0p, Z0q, Z0r, Z0s, Z0t, Z0u, Z0v, Z0w, Z0x, Z0y, Z0z, Z10, Z11, Z12, Z13, Z14, Z15, Z16, Z17, Z18, Z19, ↓reduceIte, Nat.reduceEqDiff, Z1a, Z1b, Z1c, Z1d, Z1e, Z1f, Z1g, Z1h, Z1i, Z1j, Z1k, Z1l, Z1m, Z1n, Z1o, Z1p, Z1q, Z1r, Z1s, Z1t, Z1u, Z1v, Z1w, Z1x, Z1y, Z1z, Z20, Z21, Z22, Z23, Z24, Z25, Z26, Z27, Z28, Z29, Z2a, Z2d, retK, resC, resV, Z2h, Z2i, Z2j, Z2k, Z2l, Z2m, Z2n, Z2o, Z2p, Z2q, Z2r, Z2s, Z2t, Z2u, Z2v, Z2w, Z2x, Nat.reduceAdd, Nat.reduceLT, Nat.reduceLeDiff, Z2y, Z2z, Z30, Z31, Z32, Z33, Z34, Z35, Z36, Z37, Z38, Z39, m89_1, m89_2, m89_3, m89, e0, e3, d1, d2]
      refine callT_pure c97 ?_
      cases hp : plainB (byt s i)
      · simp -dsimp -implicitDefEqProofs (disch := omega) only [Z00, Z01, Z02, Z03, Z04, Z05, Z06, Z07, Z08, Z09, Z0a, Z0b, Z0c, Z0d, Z0e, Z0f, Z0g, Z0h, Z0i, Z0j, Z0k, Z2b, Z2c, Z0m, Z0n, Z0o, Z0p, Z0q, Z0r, Z0s, Z0t, Z0u, Z0v, Z0w, Z0x, Z0y, Z0z, Z10, Z11, Z12, Z13, Z14, Z15, Z16, Z17, Z18, Z19, ↓reduceIte, Nat.reduceEqDiff, Z1a, Z1b, Z1c, Z1d, Z1e, Z1f, Z1g, Z1h, Z1i, Z1j, Z1k, Z1l, Z1m, Z1n, Z1o, Z1p, Z1q, Z1r, Z1s, Z1t, Z1u, Z1v, Z1w, Z1x, Z1y, Z1z, Z20, Z21, Z22, Z23, Z24, Z25, Z26, Z27, Z28, Z29, Z2a, Z2d, retK, resC, resV, Z2h, Z2i, Z2j, Z2k, Z2l, Z2m, Z2n, Z2o, Z2p, Z2q, Z2r, Z2s, Z2t, Z2u, Z2v, Z2w, Z2x, Nat.reduceAdd, Nat.reduceLT, Nat.reduceLeDiff, Z2y, Z2z, Z30, Z31, Z32, Z33, Z34, Z35, Z36, Z37, Z38, Z39, m89_1, m89_2, m89_3, m89, e0, e3, d1, d2, hp]
        rw [wordB_bad hc (by simp [goodB, hp])]
        exact ⟨trivial, rfl⟩
      cases hq : (byt s i : Int) == 35
      · simp -dsimp -implicitDefEqProofs (disch := omega) only [Z00, Z01, Z02, Z03, Z04, Z05, Z06, Z07, Z08, Z09, Z0a, Z0b, Z0c, Z0d, Z0e, Z0f, Z0g, Z0h, Z0i, Z0j, Z0k, Z2b, Z2c, Z0m, Z0n, Z0o, Z0p, Z0q, Z0r, Z0s, Z0t, Z0u, Z0v, Z0w, Z0x, Z0y, Z0z, Z10, Z11, Z12, Z13, Z14, Z15, Z16, Z17, Z18, Z19, ↓reduceIte, Nat.reduceEqDiff, Z1a, Z1b, Z1c, Z1d, Z1e, Z1f, Z1g, Z1h, Z1i, Z1j, Z1k, Z1l, Z1m, Z1n, Z1o, Z1p, Z1q, Z1r, Z1s, Z1t, Z1u, Z1v, Z1w, Z1x, Z1y, Z1z, Z20, Z21, Z22, Z23, Z24, Z25, Z26, Z27, Z28, Z29, Z2a, Z2d, retK, resC, resV, Z2h, Z2i, Z2j, Z2k, Z2l, Z2m, Z2n, Z2o, Z2p, Z2q, Z2r, Z2s, Z2t, Z2u, Z2v, Z2w, Z2x, Nat.reduceAdd, Nat.reduceLT, Nat.reduceLeDiff, Z2y, Z2z, Z30, Z31, Z32, Z33, Z34, Z35, Z36, Z37, Z38, Z39, m89_1, m89_2, m89_3, m89, e0, e3, d1, d2, hp, hq]
        refine ⟨⟨i + 1, trivial, trivial, rfl, by omega, lt_step hall ?_⟩, by simp only [intOf]; omega⟩
        simp [goodB, hp] at hq ⊢; omega
      · simp -dsimp -implicitDefEqProofs (disch := omega) only [Z00, Z01, Z02, Z03, Z04, Z05, Z06, Z07, Z08, Z09, Z0a, Z0b, Z0c, Z0d, Z0e, Z0f, Z0g, Z0h, Z0i, Z0j, Z0k, Z2b, Z2c, Z0m, Z0n, Z0o, Z0p, Z0q, Z0r, Z0s, Z0t, Z0u, Z0v, Z0w, Z0x, Z0y, Z0z, Z10, Z11, Z12, Z13, Z14, Z15, Z16, Z17, Z18, Z19, ↓reduceIte, Nat.reduceEqDiff, Z1a, Z1b, Z1c, Z1d, Z1e, Z1f, Z1g, Z1h, Z1i, Z1j, Z1k, Z1l, Z1m, Z1n, Z1o, Z1p, Z1q, Z1r, Z1s, Z1t, Z1u, Z1v, Z1w, Z1x, Z1y, Z1z, Z20, Z21, Z22, Z23, Z24, Z25, Z26, Z27, Z28, Z29, Z2a, Z2d, retK, resC, resV, Z2h, Z2i, Z2j, Z2k, Z2l, Z2m, Z2n, Z2o, Z2p, Z2q, Z2r, Z2s, Z2t, Z2u, Z2v, Z2w, Z2x, Nat.reduceAdd, Nat.reduceLT, Nat.reduceLeDiff, Z2y, Z2z, Z30, Z31, Z32, Z33, Z34, Z35, Z36, Z37, Z38, Z39, m89_1, m89_2, m89_3, m89, e0, e3, d1, d2, hp, hq]
        rw [wordB_bad hc (by simp [goodB, hp] at hq ⊢; omega)]
        exact ⟨trivial, rfl⟩
    · have d2 : decide ((s.size : Int) ≤ 40) = false := by simp; omega
      simp -dsimp -implicitDefEqProofs (disch := omega) only [Z00, Z01, Z02, Z03, Z04, Z05, Z06, Z07, Z08, Z09, Z0a, Z0b, Z0c, Z0d, Z0e, Z0f, Z0g, Z0h, Z0i, Z0j, Z0k, Z2b, Z2c, Z0m, Z0n, Z0o, Z0p, Z0q, Z0r, Z0s, Z0t, Z0u, Z0v, Z0w, Z0x, Z0y, Z0z, Z10, Z11, Z12, Z13, Z14, Z15, Z16, Z17, Z18, Z19, ↓reduceIte, Nat.reduceEqDiff, Z1a, Z1b, Z1c, Z1d, Z1e, Z1f, Z1g, Z1h, Z1i, Z1j, Z1k, Z1l, Z1m, Z1n, Z1o, Z1p, Z1q, Z1r, Z1s, Z1t, Z1u, Z1v, Z1w, Z1x, Z1y, Z1z, Z20, Z21, Z22, Z23, Z24, Z25, Z26, Z27, Z28, Z29, Z2a, Z2d, retK, resC, resV, Z2h, Z2i, Z2j, Z2k, Z2l, Z2m, Z2n, Z2o, Z2p, Z2q, Z2r, Z2s, Z2t, Z2u, Z2v, Z2w, Z2x, Nat.reduceAdd, Nat.reduceLT, Nat.reduceLeDiff, Z2y, Z2z, Z30, Z31, Z32, Z33, Z34, Z35, Z36, Z37, Z38, Z39, m89_1, m89_2, m89_3, m89, e0, e3, d1, d2]
      refine callT_pure c83 ?_
      simp -dsimp -implicitDefEqProofs (disch := omega) only [Z00, Z01, Z02, Z03, Z04, Z05, Z06, Z07, Z08, Z09, Z0a, Z0b, Z0c, Z0d, Z0e, Z0f, Z0g, Z0h, Z0i, Z0j, Z0k, Z2b, Z2c, Z0m, Z0n, Z0o, Z0p, Z0q, Z0r, Z0s, Z0t, Z0u, Z0v, Z0w, Z0x, Z0y, Z0z, Z10, Z11, Z12, Z13, Z14, Z15, Z16, Z17, Z18, Z19, ↓reduceIte, Nat.reduceEqDiff, Z1a, Z1b, Z1c, Z1d, Z1e, Z1f, Z1g, Z1h, Z1i, Z1j, Z1k, Z1l, Z1m, Z1n, Z1o, Z1p, Z1q, Z1r, Z1s, Z1t, Z1u, Z1v, Z1w, Z1x, Z1y, Z1z, Z20, Z21, Z22, Z23, Z24, Z25, Z26, Z27, Z28, Z29, Z2a, Z2d, retK, resC, resV, Z2h, Z2i, Z2j, Z2k, Z2l, Z2m, Z2n, Z2o, Z2p, Z2q, Z2r, Z2s, Z2t, Z2u, Z2v, Z2w, Z2x, Nat.reduceAdd, Nat.reduceLT, Nat.reduceLeDiff, Z2y, Z2z, Z30, Z31, Z32, Z33, Z34, Z35, Z36, Z37, Z38, Z39, m89_1, m89_2, m89_3, m89, e0, e3, d1, d2]
      rw [wordB_long hd]
      refine ⟨trivial, ?_⟩
      simp [inB]; omega
  · have d1 : decide ((i : Int) < s.size) = false := by simp; omega
    have : i = s.size := by omega
    subst this
    simp -dsimp -implicitDefEqProofs (disch := omega) only [Z00, Z01, Z02, Z03, Z04, Z05, Z06, Z07, Z08, Z09, Z0a, Z0b, Z0c, Z0d, Z0e, Z0f, Z0g, Z0h, Z0i, Z0j, Z0k, Z2b, Z2c, Z0m, Z0n, Z0o, Z0p, Z0q, Z0r, Z0s, Z0t, Z0u, Z0v, Z0w, Z0x, Z0y, Z0z, Z10, Z11, Z12, Z13, Z14, Z15, Z16, Z17, Z18, Z19, ↓reduceIte, Nat.reduceEqDiff, Z1a, Z1b, Z1c, Z1d, Z1e, Z1f, Z1g, Z1h, Z1i, Z1j, Z1k, Z1l, Z1m, Z1n, Z1o, Z1p, Z1q, Z1r, Z1s, Z1t, Z1u, Z1v, Z1w, Z1x, Z1y, Z1z, Z20, Z21, Z22, Z23, Z24, Z25, Z26, Z27, Z28, Z29, Z2a, Z2d, retK, resC, resV, Z2h, Z2i, Z2j, Z2k, Z2l, Z2m, Z2n, Z2o, Z2p, Z2q, Z2r, Z2s, Z2t, Z2u, Z2v, Z2w, Z2x, Nat.reduceAdd, Nat.reduceLT, Nat.reduceLeDiff, Z2y, Z2z, Z30, Z31, Z32, Z33, Z34, Z35, Z36, Z37, Z38, Z39, m89_1, m89_2, m89_3, m89, e0, e3, d1]
    refine callT_pure c83 ?_
    simp -dsimp -implicitDefEqProofs (disch := omega) only [Z00, Z01, Z02, Z03, Z04, Z05, Z06, Z07, Z08, Z09, Z0a, Z0b, Z0c, Z0d, Z0e, Z0f, Z0g, Z0h, Z0i, Z0j, Z0k, Z2b, Z2c, Z0m, Z0n, Z0o, Z0p, Z0q, Z0r, Z0s, Z0t, Z0u, Z0v, Z0w, Z0x, Z0y, Z0z, Z10, Z11, Z12, Z13, Z14, Z15, Z16, Z17, Z18, Z19, ↓reduceIte, Nat.reduceEqDiff, Z1a, Z1b, Z1c, Z1d, Z1e, Z1f, Z1g, Z1h, Z1i, Z1j, Z1k, Z1l, Z1m, Z1n, Z1o, Z1p, Z1q, Z1r, Z1s, Z1t, Z1u, Z1v, Z1w, Z1x, Z1y, Z1z, Z20, Z21, Z22, Z23, Z24, Z25, Z26, Z27, Z28, Z29, Z2a, Z2d, retK, resC, resV, Z2h, Z2i, Z2j, Z2k, Z2l, Z2m, Z2n, Z2o, Z2p, Z2q, Z2r, Z2s, Z2t, Z2u, Z2v, Z2w, Z2x, Nat.reduceAdd, Nat.reduceLT, Nat.reduceLeDiff, Z2y, Z2z, Z30, Z31, Z32, Z33, Z34, Z35, Z36, Z37, Z38, Z39, m89_1, m89_2, m89_3, m89, e0, e3, d1]
    rw [wordB_good hall]
    exact ⟨trivial, rfl⟩

/-! ### The library's search for a byte -/
set_option maxRecDepth 100000 in
open Go.Lib Go.RowKit in
theorem calls103 (s : ByteArray) (c : Int) (w : World) : Calls Try.prog 103 #[.string s, .int .u8 c] w fun e w' => e = .returned (.int .i64 (indexByte s.data.toList c.toNat.toUInt8)) ∧ w' = w := by
  go_enter Try.func103, Try.ntmps103
  go_wp2
  rw [run_callFunc_extern Try.func104 (by kernel_rfl) (by kernel_rfl) (by kernel_rfl) (e := Extern.BytealgIndexByte.indexByte) (by kernel_rfl), Lib.run_indexByteString]
  simp only [Result.andThen]
  rw [Oper.upon_value]
  go_wp2
  go_ret
  exact ⟨rfl, rfl⟩

theorem mark_find : ∀ c : Fin 256, decide (Lib.indexByte [40, 41, 60, 62, 91, 93, 123, 125, 47, 37] (Int.toNat (c.val : Nat)).toUInt8 < 0) = !markB c.val := by decide +kernel

theorem c103 {h : CH} {s : ByteArray} {c : Nat} : callW Try.prog 103 [.string s, .int .u8 c] h fun r h' => h' = h ∧ r = .int .i64 (Lib.indexByte s.data.toList (c : Int).toNat.toUInt8) :=
  sim_quiet rfl rfl fun w => calls103 s c w
theorem c102 {h : CH} {s : ByteArray} {c : Nat} : callW Try.prog 102 [.string s, .int .u8 c] h fun r h' => h' = h ∧ r = .int .i64 (Lib.indexByte s.data.toList (c : Int).toNat.toUInt8) := by
  refine callW_of (wf _) Try.func102 m102_ok (by simp [m102]) ?_
  simp -dsimp -implicitDefEqProofs (disch := omega) only [Z00, Z01, Z02, Z03, Z04, Z05, Z06, Z07, Z08, Z09, Z0a, Z0b, Z0c, Z0d, Z0e, Z0f, Z0g, Z0h, Z0i, Z0j, Z0k, Z2b, Z2c, Z0m, Z0n, Z0o, Z0p, Z0q, Z0r, Z0s, Z0t, Z0u, Z0v, Z0w, Z0x, Z0y, Z0z, Z10, Z11, Z12, Z13, Z14, Z15, Z16, Z17, Z18, Z19, ↓reduceIte, Nat.reduceEqDiff, Z1a, Z1b, Z1c, Z1d, Z1e, Z1f, Z1g, Z1h, Z1i, Z1j, Z1k, Z1l, Z1m, Z1n, Z1o, Z1p, Z1q, Z1r, Z1s, Z1t, Z1u, Z1v, Z1w, Z1x, Z1y, Z1z, Z20, Z21, Z22, Z23, Z24, Z25, Z26, Z27, Z28, Z29, Z2a, Z2d, retK, resC, resV, Z2h, Z2i, Z2j, Z2k, Z2l, Z2m, Z2n, Z2o, Z2p, Z2q, Z2r, Z2s, Z2t, Z2u, Z2v, Z2w, Z2x, Nat.reduceAdd, Nat.reduceLT, Nat.reduceLeDiff, Z2y, Z2z, Z30, Z31, Z32, Z33, Z34, Z35, Z36, Z37, Z38, Z39, m102]
  refine callT_pure c103 ?_
  simp -dsimp -implicitDefEqProofs (disch := omega) only [Z00, Z01, Z02, Z03, Z04, Z05, Z06, Z07, Z08, Z09, Z0a, Z0b, Z0c, Z0d, Z0e, Z0f, Z0g, Z0h, Z0i, Z0j, Z0k, Z2b, Z2c, Z0m, Z0n, Z0o, Z0p, Z0q, Z0r, Z0s, Z0t, Z0u, Z0v, Z0w, Z0x, Z0y, Z0z, Z10, Z11, Z12, Z13, Z14, Z15, Z16, Z17, Z18, Z19, ↓reduceIte, Nat.reduceEqDiff, Z1a, Z1b, Z1c, Z1d, Z1e, Z1f, Z1g, Z1h, Z1i, Z1j, Z1k, Z1l, Z1m, Z1n, Z1o, Z1p, Z1q, Z1r, Z1s, Z1t, Z1u, Z1v, Z1w, Z1x, Z1y, Z1z, Z20, Z21, Z22, Z23, Z24, Z25, Z26, Z27, Z28, Z29, Z2a, Z2d, retK, resC, resV, Z2h, Z2i, Z2j, Z2k, Z2l, Z2m, Z2n, Z2o, Z2p, Z2q, Z2r, Z2s, Z2t, Z2u, Z2v, Z2w, Z2x, Nat.reduceAdd, Nat.reduceLT, Nat.reduceLeDiff, Z2y, Z2z, Z30, Z31, Z32, Z33, Z34, Z35, Z36, Z37, Z38, Z39, m102]
  exact ⟨trivial, trivial⟩

theorem c100 {h : CH} {c : Nat} (hc : c < 256) : callW Try.prog 100 [.int .u8 c] h fun r h' => h' = h ∧ r = .bool (plainB c) := by
  refine callW_of (wf _) Try.func100 m100_ok (by simp [m100]) ?_
  simp -dsimp -implicitDefEqProofs (disch := omega) only [Z00, Z01, Z02, Z03, Z04, Z05, Z06, Z07, Z08, Z09, Z0a, Z0b, Z0c, Z0d, Z0e, Z0f, Z0g, Z0h, Z0i, Z0j, Z0k, Z2b, Z2c, Z0m, Z0n, Z0o, Z0p, Z0q, Z0r, Z0s, Z0t, Z0u, Z0v, Z0w, Z0x, Z0y, Z0z, Z10, Z11, Z12, Z13, Z14, Z15, Z16, Z17, Z18, Z19, ↓reduceIte, Nat.reduceEqDiff, Z1a, Z1b, Z1c, Z1d, Z1e, Z1f, Z1g, Z1h, Z1i, Z1j, Z1k, Z1l, Z1m, Z1n, Z1o, Z1p, Z1q, Z1r, Z1s, Z1t, Z1u, Z1v, Z1w, Z1x, Z1y, Z1z, Z20, Z21, Z22, Z23, Z24, Z25, Z26, Z27, Z28, Z29, Z2a, Z2d, retK, resC, resV, Z2h, Z2i, Z2j, Z2k, Z2l, Z2m, Z2n, Z2o, Z2p, Z2q, Z2r, Z2s, Z2t, Z2u, Z2v, Z2w, Z2x, Nat.reduceAdd, Nat.reduceLT, Nat.reduceLeDiff, Z2y, Z2z, Z30, Z31, Z32, Z33, Z34, Z35, Z36, Z37, Z38, Z39, m100]
  refine callT_pure c94 ?_
  cases hi : inB c 33 126
  · simp -dsimp -implicitDefEqProofs (disch := omega) only [Z00, Z01, Z02, Z03, Z04, Z05, Z06, Z07, Z08, Z09, Z0a, Z0b, Z0c, Z0d, Z0e, Z0f, Z0g, Z0h, Z0i, Z0j, Z0k, Z2b, Z2c, Z0m, Z0n, Z0o, Z0p, Z0q, Z0r, Z0s, Z0t, Z0u, Z0v, Z0w, Z0x, Z0y, Z0z, Z10, Z11, Z12, Z13, Z14, Z15, Z16, Z17, Z18, Z19, ↓reduceIte, Nat.reduceEqDiff, Z1a, Z1b, Z1c, Z1d, Z1e, Z1f, Z1g, Z1h, Z1i, Z1j, Z1k, Z1l, Z1m, Z1n, Z1o, Z1p, Z1q, Z1r, Z1s, Z1t, Z1u, Z1v, Z1w, Z1x, Z1y, Z1z, Z20, Z21, Z22, Z23, Z24, Z25, Z26, Z27, Z28, Z29, Z2a, Z2d, retK, resC, resV, Z2h, Z2i, Z2j, Z2k, Z2l, Z2m, Z2n, Z2o, Z2p, Z2q, Z2r, Z2s, Z2t, Z2u, Z2v, Z2w, Z2x, Nat.reduceAdd, Nat.reduceLT, Nat.reduceLeDiff, Z2y, Z2z, Z30, Z31, Z32, Z33, Z34, Z35, Z36, Z37, Z38, Z39, m100, hi]
    simp only [plainB]
    refine ⟨trivial, ?_⟩
    have : (decide (33 ≤ c) && decide (c ≤ 126)) = false := by
      rw [← hi]; simp only [inB]; congr 1 <;> (rw [decide_eq_decide]; omega)
    rw [this]; rfl
  · simp -dsimp -implicitDefEqProofs (disch := omega) only [Z00, Z01, Z02, Z03, Z04, Z05, Z06, Z07, Z08, Z09, Z0a, Z0b, Z0c, Z0d, Z0e, Z0f, Z0g, Z0h, Z0i, Z0j, Z0k, Z2b, Z2c, Z0m, Z0n, Z0o, Z0p, Z0q, Z0r, Z0s, Z0t, Z0u, Z0v, Z0w, Z0x, Z0y, Z0z, Z10, Z11, Z12, Z13, Z14, Z15, Z16, Z17, Z18, Z19, ↓reduceIte, Nat.reduceEqDiff, Z1a, Z1b, Z1c, Z1d, Z1e, Z1f, Z1g, Z1h, Z1i, Z1j, Z1k, Z1l, Z1m, Z1n, Z1o, Z1p, Z1q, Z1r, Z1s, Z1t, Z1u, Z1v, Z1w, Z1x, Z1y, Z1z, Z20, Z21, Z22, Z23, Z24, Z25, Z26, Z27, Z28, Z29, Z2a, Z2d, retK, resC, resV, Z2h, Z2i, Z2j, Z2k, Z2l, Z2m, Z2n, Z2o, Z2p, Z2q, Z2r, Z2s, Z2t, Z2u, Z2v, Z2w, Z2x, Nat.reduceAdd, Nat.reduceLT, Nat.reduceLeDiff, Z2y, Z2z, Z30, Z31, Z32, Z33, Z34, Z35, Z36, Z37, Z38, Z39, m100, hi]
    refine callT_pure c102 ?_
    simp -dsimp -implicitDefEqProofs (disch := omega) only [Z00, Z01, Z02, Z03, Z04, Z05, Z06, Z07, Z08, Z09, Z0a, Z0b, Z0c, Z0d, Z0e, Z0f, Z0g, Z0h, Z0i, Z0j, Z0k, Z2b, Z2c, Z0m, Z0n, Z0o, Z0p, Z0q, Z0r, Z0s, Z0t, Z0u, Z0v, Z0w, Z0x, Z0y, Z0z, Z10, Z11, Z12, Z13, Z14, Z15, Z16, Z17, Z18, Z19, ↓reduceIte, Nat.reduceEqDiff, Z1a, Z1b, Z1c, Z1d, Z1e, Z1f, Z1g, Z1h, Z1i, Z1j, Z1k, Z1l, Z1m, Z1n, Z1o, Z1p, Z1q, Z1r, Z1s, Z1t, Z1u, Z1v, Z1w, Z1x, Z1y, Z1z, Z20, Z21, Z22, Z23, Z24, Z25, Z26, Z27, Z28, Z29, Z2a, Z2d, retK, resC, resV, Z2h, Z2i, Z2j, Z2k, Z2l, Z2m, Z2n, Z2o, Z2p, Z2q, Z2r, Z2s, Z2t, Z2u, Z2v, Z2w, Z2x, Nat.reduceAdd, Nat.reduceLT, Nat.reduceLeDiff, Z2y, Z2z, Z30, Z31, Z32, Z33, Z34, Z35, Z36, Z37, Z38, Z39, m100, hi]
    have := mark_find ⟨c, hc⟩
    simp only [Int.toNat_natCast] at this
    rw [this]
    refine ⟨trivial, ?_⟩
    simp only [plainB]
    have : (decide (33 ≤ c) && decide (c ≤ 126)) = true := by
      rw [← hi]; simp only [inB]; congr 1 <;> (rw [decide_eq_decide]; omega)
    rw [this]; rfl

theorem c95 {h : CH} {s : ByteArray} (hs : s.size ≤ 9223372036854775807) : callW Try.prog 95 [.string s] h fun r h' => h' = h ∧ r = .bool (wordB s) := by
  refine callW_of (wf _) Try.func95 m95_ok (by simp [m95]) ?_
  simp -dsimp -implicitDefEqProofs (disch := omega) only [Z00, Z01, Z02, Z03, Z04, Z05, Z06, Z07, Z08, Z09, Z0a, Z0b, Z0c, Z0d, Z0e, Z0f, Z0g, Z0h, Z0i, Z0j, Z0k, Z2b, Z2c, Z0m, Z0n, Z0o, Z0p, Z0q, Z0r, Z0s, Z0t, Z0u, Z0v, Z0w, Z0x, Z0y, Z0z, Z10, Z11, Z12, Z13, Z14, Z15, Z16, Z17, Z18, Z19, ↓reduceIte, Nat.reduceEqDiff, Z1a, Z1b, Z1c, Z1d, Z1e, Z1f, Z1g, Z1h, Z1i, Z1j, Z1k, Z1l, Z1m, Z1n, Z1o, Z1p, Z1q, Z1r, Z1s, Z1t, Z1u, Z1v, Z1w, Z1x, Z1y, Z1z, Z20, Z21, Z22, Z23, Z24, Z25, Z26, Z27, Z28, Z29, Z2a, Z2d, retK, resC, resV, Z2h, Z2i, Z2j, Z2k, Z2l, Z2m, Z2n, Z2o, Z2p, Z2q, Z2r, Z2s, Z2t, Z2u, Z2v, Z2w, Z2x, Nat.reduceAdd, Nat.reduceLT, Nat.reduceLeDiff, Z2y, Z2z, Z30, Z31, Z32, Z33, Z34, Z35, Z36, Z37, Z38, Z39, m95_1, m95_2, m95_3, m95]
  refine loopT_of (wpC_loop (fun ρ h1 => ∃ i : Nat, h1 = h ∧ ρ 0 = .string s ∧ ρ 5 = .int .i64 s.size ∧ ρ 6 = .int .i64 i ∧ i ≤ s.size ∧ ∀ j, j < i → goodB (byt s j) = true) (fun ρ _ => s.size - intOf (ρ 6)) ⟨0, rfl, ?_, ?_, ?_, Nat.zero_le _, by simp⟩ ?_)
  · simp -dsimp -implicitDefEqProofs (disch := omega) only [Z00, Z01, Z02, Z03, Z04, Z05, Z06, Z07, Z08, Z09, Z0a, Z0b, Z0c, Z0d, Z0e, Z0f, Z0g, Z0h, Z0i, Z0j, Z0k, Z2b, Z2c, Z0m, Z0n, Z0o, Z0p, Z0q, Z0r, Z0s, Z0t, Z0u, Z0v, Z0w, Z0x, Z0y, Z0z, Z10, Z11, Z12, Z13, Z14, Z15, Z16, Z17, Z18, Z19, ↓reduceIte, Nat.reduceEqDiff, Z1a, Z1b, Z1c, Z1d, Z1e, Z1f, Z1g, Z1h, Z1i, Z1j, Z1k, Z1l, Z1m, Z1n, Z1o, Z1p, Z1q, Z1r, Z1s, Z1t, Z1u, Z1v, Z1w, Z1x, Z1y, Z1z, Z20, Z21, Z22, Z23, Z24, Z25, Z26, Z27, Z28, Z29, Z2a, Z2d, retK, resC, resV, Z2h, Z2i, Z2j, Z2k, Z2l, Z2m, Z2n, Z2o, Z2p, Z2q, Z2r, Z2s, Z2t, Z2u, Z2v, Z2w, Z2x, Nat.reduceAdd, Nat.reduceLT, Nat.reduceLeDiff, Z2y, Z2z, Z30, Z31, Z32, Z33, Z34, Z35, Z36, Z37, Z38, Z39, m95_1, m95_2, m95_3, m95]
  · simp -dsimp -implicitDefEqProofs (disch := omega) only [Z00, Z01, Z02, Z03, Z04, Z05, Z06, Z07, Z08, Z09, Z0a, Z0b, Z0c, Z0d, Z0e, Z0f, Z0g, Z0h, Z0i, Z0j, Z0k, Z2b, Z2c, Z0m, Z0n, Z0o, Z0p, Z0q, Z0r, Z0s, Z0t, Z0u, Z0v, Z0w, Z0x, Z0y, Z0z, Z10, Z11, Z12, Z13, Z14, Z15, Z16, Z17, Z18, Z19, ↓reduceIte, Nat.reduceEqDiff, Z1a, Z1b, Z1c, Z1d, Z1e, Z1f, Z1g, Z1h, Z1i, Z1j, Z1k, Z1l, Z1m, Z1n, Z1o, Z1p, Z1q, Z1r, Z1s, Z1t, Z1u, Z1v, Z1w, Z1x, Z1y, Z1z, Z20, Z21, Z22, Z23, Z24, Z25, Z26, Z27, Z28, Z29, Z2a, Z2d, retK, resC, resV, Z2h, Z2i, Z2j, Z2k, Z2l, Z2m, Z2n, Z2o, Z2p, Z2q, Z2r, Z2s, Z2t, Z2u, Z2v, Z2w, Z2x, Nat.reduceAdd, Nat.reduceLT, Nat.reduceLeDiff, Z2y, Z2z, Z30, Z31, Z32, Z33, Z34, Z35, Z36, Z37, Z38, Z39, m95_1, m95_2, m95_3, m95]
  · simp -dsimp -implicitDefEqProofs (disch := omega) only [Z00, Z01, Z02, Z03, Z04, Z05, Z06, Z07, Z08, Z09, Z0a, Z0b, Z0c, Z0d, Z0e, Z0f, Z0g, Z0h, Z0i, Z0j, Z0k, Z2b, Z2c, Z0m, Z0n, Z0o, Z0p, Z0q, Z0r, Z0s, Z0t, Z0u, Z0v, Z0w, Z0x, Z0y, Z0z, Z10, Z11, Z12, Z13, Z14, Z15, Z16, Z17, Z18, Z19, ↓reduceIte, Nat.reduceEqDiff, Z1a, Z1b, Z1c, Z1d, Z1e, Z1f, Z1g, Z1h, Z1i, Z1j, Z1k, Z1l, Z1m, Z1n, Z1o, Z1p, Z1q, Z1r, Z1s, Z1t, Z1u, Z1v, Z1w, Z1x, Z1y, Z1z, Z20, Z21, Z22, Z23, Z24, Z25, Z26, Z27, Z28, Z29, Z2a, Z2d, retK, resC, resV, Z2h, Z2i, Z2j, Z2k, Z2l, Z2m, Z2n, Z2o, Z2p, Z2q, Z2r, Z2s, Z2t, Z2u, Z2v, Z2w, Z2x, Nat.reduceAdd, Nat.reduceLT, Nat.reduceLeDiff, Z2y, Z2z, Z30, Z31, Z32, Z33, Z34, Z35, Z36, Z37, Z38, Z39, m95_1, m95_2, m95_3, m95]; rfl
  rintro ρ h1 ⟨i, rfl, e0, e5, e6, hi, hall⟩
  by_cases hc : i < s.size
  · have d1 : decide ((i : Int) < s.size) = true := by simp; omega
    simp -dsimp -implicitDefEqProofs (disch := omega) only [Z00, Z01, Z02, Z03, Z04, Z05, Z06, Z07, Z08, Z09, Z0a, Z0b, Z0c, Z0d, Z0e, Z0f, Z0g, Z0h, Z0i, Z0j, Z0k, Z2b, Z2c, Z0m, Z0n, Z0o, Z0p, Z0q, Z0r, Z0s, Z0t, Z0u, Z0v, Z0w, Z0x, Z0y, Z0z, Z10, Z11, Z12, Z13, Z14, Z15, Z16, Z17, Z18, Z19, ↓reduceIte, Nat.reduceEqDiff, Z1a, Z1b, Z1c, Z1d, Z1e, Z1f, Z1g, Z1h, Z1i, Z1j, Z1k, Z1l, Z1m, Z1n, Z1o, Z1p, Z1q, Z1r, Z1s, Z1t, Z1u, Z1v, Z1w, Z1x, Z1y, Z1z, Z20, Z21, Z22, Z23, Z24, Z25, Z26, Z27, Z28, Z29, Z2a, Z2d, retK, resC, resV, Z2h, Z2i, Z2j, Z2k, Z2l, Z2m, Z2n, Z2o, Z2p, Z2q, Z2r, Z2s, Z2t, Z2u, Z2v, Z2w, Z2x, Nat.reduceAdd, Nat.reduceLT, Nat.reduceLeDiff, Z2y, Z2z, Z30, Z31, Z32, Z33, Z34, Z35, Z36, Z37, Z38, Z39, m95_1, m95_2, m95_3, m95, e0, e5, e6, d1]
    refine callT_pure (c100 (byt_lt _ _)) ?_
    cases hp : plainB (byt s i)
    · simp -dsimp -implicitDefEqProofs (disch := omega) only [Z00, Z01, Z02, Z03, Z04, Z05, Z06, Z07, Z08, Z09, Z0a, Z0b, Z0c, Z0d, Z0e, Z0f, Z0g, Z0h, Z0i, Z0j, Z0k, Z2b, Z2c, Z0m, Z0n, Z0o, Z0p, Z0q, Z0r, Z0s, Z0t, Z0u, Z0v, Z0w, Z0x, Z0y, Z0z, Z10, Z11, Z12, Z13, Z14, Z15, Z16, Z17, Z18, Z19, ↓reduceIte, Nat.reduceEqDiff, Z1a, Z1b, Z1c, Z1d, Z1e, Z1f, Z1g, Z1h, Z1i, Z1j, Z1k, Z1l, Z1m, Z1n, Z1o, Z1p, Z1q, Z1r, Z1s, Z1t, Z1u, Z1v, Z1w, Z1x, Z1y, Z1z, Z20, Z21, Z22, Z23, Z24, Z25, Z26, Z27, Z28, Z29, Z2a, Z2d, retK, resC, resV, Z2h, Z2i, Z2j, Z2k, Z2l, Z2m, Z2n, Z2o, Z2p, Z2q, Z2r, Z2s, Z2t, Z2u, Z2v, Z2w, Z2x, Nat.reduceAdd, Nat.reduceLT, Nat.reduceLeDiff, Z2y, Z2z, Z30, Z31, Z32, Z33, Z34, Z35, Z36, Z37, Z38, Z39, m95_1, m95_2, m95_3, m95, e0, e5, e6, d1, hp]
      rw [wordB_bad hc (by simp [goodB, hp])]
      exact ⟨trivial, rfl⟩
    cases hq : (byt s i : Int) == 35
    · simp -dsimp -implicitDefEqProofs (disch := omega) only [Z00, Z01, Z02, Z03, Z04, Z05, Z06, Z07, Z08, Z09, Z0a, Z0b, Z0c, Z0d, Z0e, Z0f, Z0g, Z0h, Z0i, Z0j, Z0k, Z2b, Z2c, Z0m, Z0n, Z0o, Z0p, Z0q, Z0r, Z0s, Z0t, Z0u, Z0v, Z0w, Z0x, Z0y, Z0z, Z10, Z11, Z12, Z13, Z14, Z15, Z16, Z17, Z18, Z19, ↓reduceIte, Nat.reduceEqDiff, Z1a, Z1b, Z1c, Z1d, Z1e, Z1f, Z1g, Z1h, Z1i, Z1j, Z1k, Z1l, Z1m, Z1n, Z1o, Z1p, Z1q, Z1r, Z1s, Z1t, Z1u, Z1v, Z1w, Z1x, Z1y, Z1z, Z20, Z21, Z22, Z23, Z24, Z25, Z26, Z27, Z28, Z29, Z2a, Z2d, retK, resC, resV, Z2h, Z2i, Z2j, Z2k, Z2l, Z2m, Z2n, Z2o, Z2p, Z2q, Z2r, Z2s, Z2t, Z2u, Z2v, Z2w, Z2x, Nat.reduceAdd, Nat.reduceLT, Nat.reduceLeDiff, Z2y, Z2z, Z30, Z31, Z32, Z33, Z34, Z35, Z36, Z37, Z38, Z39, m95_1, m95_2, m95_3, m95, e0, e5, e6, d1, hp, hq]
      refine ⟨⟨i + 1, trivial, trivial, trivial, rfl, by omega, lt_step hall ?_⟩, by simp only [intOf]; omega⟩
      simp [goodB, hp] at hq ⊢; omega
    · simp -dsimp -implicitDefEqProofs (disch := omega) only [Z00, Z01, Z02, Z03, Z04, Z05, Z06, Z07, Z08, Z09, Z0a, Z0b, Z0c, Z0d, Z0e, Z0f, Z0g, Z0h, Z0i, Z0j, Z0k, Z2b, Z2c, Z0m, Z0n, Z0o, Z0p, Z0q, Z0r, Z0s, Z0t, Z0u, Z0v, Z0w, Z0x, Z0y, Z0z, Z10, Z11, Z12, Z13, Z14, Z15, Z16, Z17, Z18, Z19, ↓reduceIte, Nat.reduceEqDiff, Z1a, Z1b, Z1c, Z1d, Z1e, Z1f, Z1g, Z1h, Z1i, Z1j, Z1k, Z1l, Z1m, Z1n, Z1o, Z1p, Z1q, Z1r, Z1s, Z1t, Z1u, Z1v, Z1w, Z1x, Z1y, Z1z, Z20, Z21, Z22, Z23, Z24, Z25, Z26, Z27, Z28, Z29, Z2a, Z2d, retK, resC, resV, Z2h, Z2i, Z2j, Z2k, Z2l, Z2m, Z2n, Z2o, Z2p, Z2q, Z2r, Z2s, Z2t, Z2u, Z2v, Z2w, Z2x, Nat.reduceAdd, Nat.reduceLT, Nat.reduceLeDiff, Z2y, Z2z, Z30, Z31, Z32, Z33, Z34, Z35, Z36, Z37, Z38, Z39, m95_1, m95_2, m95_3, m95, e0, e5, e6, d1, hp, hq]
      rw [wordB_bad hc (by simp [goodB, hp] at hq ⊢; omega)]
      exact ⟨trivial, rfl⟩
  · have d1 : decide ((i : Int) < s.size) = false := by simp; omega
    have : i = s.size := by omega
    subst this
    simp -dsimp -implicitDefEqProofs (disch := omega) only [Z00, Z01, Z02, Z03, Z04, Z05, Z06, Z07, Z08, Z09, Z0a, Z0b, Z0c, Z0d, Z0e, Z0f, Z0g, Z0h, Z0i, Z0j, Z0k, Z2b, Z2c, Z0m, Z0n, Z0o, Z0p, Z0q, Z0r, Z0s, Z0t, Z0u, Z0v, Z0w, Z0x, Z0y, Z0z, Z10, Z11, Z12, Z13, Z14, Z15, Z16, Z17, Z18, Z19, ↓reduceIte, Nat.reduceEqDiff, Z1a, Z1b, Z1c, Z1d, Z1e, Z1f, Z1g, Z1h, Z1i, Z1j, Z1k, Z1l, Z1m, Z1n, Z1o, Z1p, Z1q, Z1r, Z1s, Z1t, Z1u, Z1v, Z1w, Z1x, Z1y, Z1z, Z20, Z21, Z22, Z23, Z24, Z25, Z26, Z27, Z28, Z29, Z2a, Z2d, retK, resC, resV, Z2h, Z2i, Z2j, Z2k, Z2l, Z2m, Z2n, Z2o, Z2p, Z2q, Z2r, Z2s, Z2t, Z2u, Z2v, Z2w, Z2x, Nat.reduceAdd, Nat.reduceLT, Nat.reduceLeDiff, Z2y, Z2z, Z30, Z31, Z32, Z33, Z34, Z35, Z36, Z37, Z38, Z39, m95_1, m95_2, m95_3, m95, e0, e5, e6, d1]
    refine callT_pure c94 ?_
    simp -dsimp -implicitDefEqProofs (disch := omega) only [Z00, Z01, Z02, Z03, Z04, Z05, Z06, Z07, Z08, Z09, Z0a, Z0b, Z0c, Z0d, Z0e, Z0f, Z0g, Z0h, Z0i, Z0j, Z0k, Z2b, Z2c, Z0m, Z0n, Z0o, Z0p, Z0q, Z0r, Z0s, Z0t, Z0u, Z0v, Z0w, Z0x, Z0y, Z0z, Z10, Z11, Z12, Z13, Z14, Z15, Z16, Z17, Z18, Z19, ↓reduceIte, Nat.reduceEqDiff, Z1a, Z1b, Z1c, Z1d, Z1e, Z1f, Z1g, Z1h, Z1i, Z1j, Z1k, Z1l, Z1m, Z1n, Z1o, Z1p, Z1q, Z1r, Z1s, Z1t, Z1u, Z1v, Z1w, Z1x, Z1y, Z1z, Z20, Z21, Z22, Z23, Z24, Z25, Z26, Z27, Z28, Z29, Z2a, Z2d, retK, resC, resV, Z2h, Z2i, Z2j, Z2k, Z2l, Z2m, Z2n, Z2o, Z2p, Z2q, Z2r, Z2s, Z2t, Z2u, Z2v, Z2w, Z2x, Nat.reduceAdd, Nat.reduceLT, Nat.reduceLeDiff, Z2y, Z2z, Z30, Z31, Z32, Z33, Z34, Z35, Z36, Z37, Z38, Z39, m95_1, m95_2, m95_3, m95]
    rw [wordB_good hall]
    exact ⟨trivial, rfl⟩
end Go.Proofs.Ytdfmdclfnhgjiaa.Can
