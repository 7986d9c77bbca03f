/- Marks that are held are found.
   Conditions: those that each law names. -/
import Derived.Test.YtdfmdclfnhgjiaaObI
set_option linter.unusedVariables false
set_option linter.unusedSimpArgs false
namespace Go.Proofs.Ytdfmdclfnhgjiaa.Can
open Go

theorem mkK_get : ∀ (ks : List ByteArray) (k : Int) (i : Nat), i < ks.length → (mkK ks k)[i]? = some (mt (k + i))
  | [], _, _, h => by simp at h
  | s :: r, k, 0, h => by simp [mkK]
  | s :: r, k, i + 1, h => by
    have := mkK_get r (k + 1) i (by simpa using h)
    simp only [mkK, List.getElem?_cons_succ, this]
    congr 2
    push_cast
    omega

theorem c41 {h : CH} {S : Nat → Prop} {v : Value} {ks : List ByteArray} {k : Int} (hs : Rd h S (encK (mkK ks k)) [v]) (hS : ∀ n, S n → n < h.size) (k0 : 0 ≤ k) (k1 : k + ks.length ≤ 4294967296) :
    callW Try.prog 41 [v, .int .i64 k] h fun r h' => Ext h h' ∧ r = .int .i64 (k + ks.length) := by
  refine callW_of (wf _) Try.func41 m41_ok (by simp [m41]) ?_
  obtain ⟨a, cap, rfl, hel⟩ := hs.slice
  simp only [List.length_map, mkK_len] at hel ⊢
  simp -dsimp -implicitDefEqProofs only [Z00, Z01, Z02, Z03, Z04, Z05, Z06, Z07, Z08, Z09, Z0a, Z0b, Z0c, Z0d, Z0e, Z0f, Z0g, Z0h, Z0i, Z0j, Z0k, Z0l, Z0m, Z0n, Z0o, Z0p, Z0q, Z0r, Z0s, Z0t, Z0u, Z0v, Z0w, Z0x, Z0y, Z0z, Z10, Z11, Z12, Z13, Z14, Z15, Z16, Z17, Z18, Z19, ↓reduceIte, Nat.reduceEqDiff, Z1a, Z1b, Z1c, Z1d, Z1e, Z1f, Z1g, Z1h, Z1i, Z1j, Z1k, Z1l, Z1m, Z1n, Z1o, Z1p, Z1q, Z1r, Z1s, Z1t, Z1u, Z1v, Z1w, Z1x, Z1y, Z1z, Z20, Z21, Z22, Z23, Z24, Z25, Z26, Z27, Z28, Z29, Z2a, m41]
  refine loopT_of (wpC_loop (fun ρ h1 => ∃ (i : Nat), Ext h h1 ∧ i ≤ ks.length ∧ ρ 0 = .slice a ks.length cap ∧ ρ 1 = .int .i64 (k + i) ∧ ρ 5 = .int .i64 i)
      (fun ρ h1 => ks.length - intOf (ρ 5)) ⟨0, Ext.refl h, Nat.zero_le _, ?_, ?_, ?_⟩ ?_)
  · simp -dsimp -implicitDefEqProofs only [Z00, Z01, Z02, Z03, Z04, Z05, Z06, Z07, Z08, Z09, Z0a, Z0b, Z0c, Z0d, Z0e, Z0f, Z0g, Z0h, Z0i, Z0j, Z0k, Z0l, Z0m, Z0n, Z0o, Z0p, Z0q, Z0r, Z0s, Z0t, Z0u, Z0v, Z0w, Z0x, Z0y, Z0z, Z10, Z11, Z12, Z13, Z14, Z15, Z16, Z17, Z18, Z19, ↓reduceIte, Nat.reduceEqDiff, Z1a, Z1b, Z1c, Z1d, Z1e, Z1f, Z1g, Z1h, Z1i, Z1j, Z1k, Z1l, Z1m, Z1n, Z1o, Z1p, Z1q, Z1r, Z1s, Z1t, Z1u, Z1v, Z1w, Z1x, Z1y, Z1z, Z20, Z21, Z22, Z23, Z24, Z25, Z26, Z27, Z28, Z29, Z2a]
  · simp -dsimp -implicitDefEqProofs only [Z00, Z01, Z02, Z03, Z04, Z05, Z06, Z07, Z08, Z09, Z0a, Z0b, Z0c, Z0d, Z0e, Z0f, Z0g, Z0h, Z0i, Z0j, Z0k, Z0l, Z0m, Z0n, Z0o, Z0p, Z0q, Z0r, Z0s, Z0t, Z0u, Z0v, Z0w, Z0x, Z0y, Z0z, Z10, Z11, Z12, Z13, Z14, Z15, Z16, Z17, Z18, Z19, ↓reduceIte, Nat.reduceEqDiff, Z1a, Z1b, Z1c, Z1d, Z1e, Z1f, Z1g, Z1h, Z1i, Z1j, Z1k, Z1l, Z1m, Z1n, Z1o, Z1p, Z1q, Z1r, Z1s, Z1t, Z1u, Z1v, Z1w, Z1x, Z1y, Z1z, Z20, Z21, Z22, Z23, Z24, Z25, Z26, Z27, Z28, Z29, Z2a]; simp
  · simp -dsimp -implicitDefEqProofs only [Z00, Z01, Z02, Z03, Z04, Z05, Z06, Z07, Z08, Z09, Z0a, Z0b, Z0c, Z0d, Z0e, Z0f, Z0g, Z0h, Z0i, Z0j, Z0k, Z0l, Z0m, Z0n, Z0o, Z0p, Z0q, Z0r, Z0s, Z0t, Z0u, Z0v, Z0w, Z0x, Z0y, Z0z, Z10, Z11, Z12, Z13, Z14, Z15, Z16, Z17, Z18, Z19, ↓reduceIte, Nat.reduceEqDiff, Z1a, Z1b, Z1c, Z1d, Z1e, Z1f, Z1g, Z1h, Z1i, Z1j, Z1k, Z1l, Z1m, Z1n, Z1o, Z1p, Z1q, Z1r, Z1s, Z1t, Z1u, Z1v, Z1w, Z1x, Z1y, Z1z, Z20, Z21, Z22, Z23, Z24, Z25, Z26, Z27, Z28, Z29, Z2a]; rfl
  rintro ρ h1 ⟨i, hext, hi, e0, e1, e5⟩
  simp -dsimp -implicitDefEqProofs only [Z00, Z01, Z02, Z03, Z04, Z05, Z06, Z07, Z08, Z09, Z0a, Z0b, Z0c, Z0d, Z0e, Z0f, Z0g, Z0h, Z0i, Z0j, Z0k, Z0l, Z0m, Z0n, Z0o, Z0p, Z0q, Z0r, Z0s, Z0t, Z0u, Z0v, Z0w, Z0x, Z0y, Z0z, Z10, Z11, Z12, Z13, Z14, Z15, Z16, Z17, Z18, Z19, ↓reduceIte, Nat.reduceEqDiff, Z1a, Z1b, Z1c, Z1d, Z1e, Z1f, Z1g, Z1h, Z1i, Z1j, Z1k, Z1l, Z1m, Z1n, Z1o, Z1p, Z1q, Z1r, Z1s, Z1t, Z1u, Z1v, Z1w, Z1x, Z1y, Z1z, Z20, Z21, Z22, Z23, Z24, Z25, Z26, Z27, Z28, Z29, Z2a, e0, e1, e5]
  refine ifW_intro (fun hc => ?_) (fun hc => ?_)
  · simp only [decide_eq_true_eq] at hc
    have hi2 : i < ks.length := by omega
    obtain ⟨n, o, c, opn, rw, rfl, hSn, hat, _, hcs⟩ := hel i hi2
    have hcell := (hcs i (encT (mt (k + i))) (by rw [List.getElem?_map, mkK_get ks k i hi2]; rfl)).val_cell
    simp only [Nat.mul_one] at hcell
    have at1 := (hext.old n (hS n hSn)).trans hat
    simp -dsimp -implicitDefEqProofs only [Z00, Z01, Z02, Z03, Z04, Z05, Z06, Z07, Z08, Z09, Z0a, Z0b, Z0c, Z0d, Z0e, Z0f, Z0g, Z0h, Z0i, Z0j, Z0k, Z0l, Z0m, Z0n, Z0o, Z0p, Z0q, Z0r, Z0s, Z0t, Z0u, Z0v, Z0w, Z0x, Z0y, Z0z, Z10, Z11, Z12, Z13, Z14, Z15, Z16, Z17, Z18, Z19, ↓reduceIte, Nat.reduceEqDiff, Z1a, Z1b, Z1c, Z1d, Z1e, Z1f, Z1g, Z1h, Z1i, Z1j, Z1k, Z1l, Z1m, Z1n, Z1o, Z1p, Z1q, Z1r, Z1s, Z1t, Z1u, Z1v, Z1w, Z1x, Z1y, Z1z, Z20, Z21, Z22, Z23, Z24, Z25, Z26, Z27, Z28, Z29, Z2a, e0, e1, e5, s_iaddr (Int.natCast_nonneg i) hc, at1, Nat.mul_one, Int.toNat_natCast, hcell]
    refine callT_of (c67 (by omega) (by omega)) ?_
    rintro r h2 - ⟨ext2, rfl⟩
    have at2 := (ext2.old n (Nat.lt_of_lt_of_le (hS n hSn) hext.size)).trans at1
    refine ⟨?_, ?_⟩
    · simp -dsimp -implicitDefEqProofs only [Z00, Z01, Z02, Z03, Z04, Z05, Z06, Z07, Z08, Z09, Z0a, Z0b, Z0c, Z0d, Z0e, Z0f, Z0g, Z0h, Z0i, Z0j, Z0k, Z0l, Z0m, Z0n, Z0o, Z0p, Z0q, Z0r, Z0s, Z0t, Z0u, Z0v, Z0w, Z0x, Z0y, Z0z, Z10, Z11, Z12, Z13, Z14, Z15, Z16, Z17, Z18, Z19, ↓reduceIte, Nat.reduceEqDiff, Z1a, Z1b, Z1c, Z1d, Z1e, Z1f, Z1g, Z1h, Z1i, Z1j, Z1k, Z1l, Z1m, Z1n, Z1o, Z1p, Z1q, Z1r, Z1s, Z1t, Z1u, Z1v, Z1w, Z1x, Z1y, Z1z, Z20, Z21, Z22, Z23, Z24, Z25, Z26, Z27, Z28, Z29, Z2a, e0, e1, e5, at2, hcell, and_self]
    simp -dsimp -implicitDefEqProofs only [Z00, Z01, Z02, Z03, Z04, Z05, Z06, Z07, Z08, Z09, Z0a, Z0b, Z0c, Z0d, Z0e, Z0f, Z0g, Z0h, Z0i, Z0j, Z0k, Z0l, Z0m, Z0n, Z0o, Z0p, Z0q, Z0r, Z0s, Z0t, Z0u, Z0v, Z0w, Z0x, Z0y, Z0z, Z10, Z11, Z12, Z13, Z14, Z15, Z16, Z17, Z18, Z19, ↓reduceIte, Nat.reduceEqDiff, Z1a, Z1b, Z1c, Z1d, Z1e, Z1f, Z1g, Z1h, Z1i, Z1j, Z1k, Z1l, Z1m, Z1n, Z1o, Z1p, Z1q, Z1r, Z1s, Z1t, Z1u, Z1v, Z1w, Z1x, Z1y, Z1z, Z20, Z21, Z22, Z23, Z24, Z25, Z26, Z27, Z28, Z29, Z2a, e0, e1, e5]
    refine ifW_intro (fun hc4 => ?_) (fun hc4 => ?_)
    · simp at hc4
    simp -dsimp -implicitDefEqProofs only [Z00, Z01, Z02, Z03, Z04, Z05, Z06, Z07, Z08, Z09, Z0a, Z0b, Z0c, Z0d, Z0e, Z0f, Z0g, Z0h, Z0i, Z0j, Z0k, Z0l, Z0m, Z0n, Z0o, Z0p, Z0q, Z0r, Z0s, Z0t, Z0u, Z0v, Z0w, Z0x, Z0y, Z0z, Z10, Z11, Z12, Z13, Z14, Z15, Z16, Z17, Z18, Z19, ↓reduceIte, Nat.reduceEqDiff, Z1a, Z1b, Z1c, Z1d, Z1e, Z1f, Z1g, Z1h, Z1i, Z1j, Z1k, Z1l, Z1m, Z1n, Z1o, Z1p, Z1q, Z1r, Z1s, Z1t, Z1u, Z1v, Z1w, Z1x, Z1y, Z1z, Z20, Z21, Z22, Z23, Z24, Z25, Z26, Z27, Z28, Z29, Z2a, e0, e1, e5]
    rw [wrap64 (by omega) (by omega), wrap64 (by omega) (by omega)]
    refine ⟨⟨i + 1, hext.trans ext2, hi2, trivial, by congr 1; push_cast; omega, rfl⟩, ?_⟩
    simp only [intOf]; omega
  · simp only [decide_eq_false_iff_not] at hc
    have : i = ks.length := by omega
    subst this
    simp -dsimp -implicitDefEqProofs only [Z00, Z01, Z02, Z03, Z04, Z05, Z06, Z07, Z08, Z09, Z0a, Z0b, Z0c, Z0d, Z0e, Z0f, Z0g, Z0h, Z0i, Z0j, Z0k, Z0l, Z0m, Z0n, Z0o, Z0p, Z0q, Z0r, Z0s, Z0t, Z0u, Z0v, Z0w, Z0x, Z0y, Z0z, Z10, Z11, Z12, Z13, Z14, Z15, Z16, Z17, Z18, Z19, ↓reduceIte, Nat.reduceEqDiff, Z1a, Z1b, Z1c, Z1d, Z1e, Z1f, Z1g, Z1h, Z1i, Z1j, Z1k, Z1l, Z1m, Z1n, Z1o, Z1p, Z1q, Z1r, Z1s, Z1t, Z1u, Z1v, Z1w, Z1x, Z1y, Z1z, Z20, Z21, Z22, Z23, Z24, Z25, Z26, Z27, Z28, Z29, Z2a, retK, resC, resV, e0, e1, e5]
    exact ⟨hext, trivial⟩

mutual
def cntE : OT → Nat
  | .mk _ _ _ ks kd => 3 + ks.length + cntL kd
def cntL : List OT → Nat
  | [] => 0
  | o :: r => cntE o + cntL r
end
mutual
def markE : OT → Int → OT
  | .mk _ _ _ ks kd, k => .mk k (k + 1) (mt (k + 2)) (mkK ks (k + 3)) (markL kd (k + 3 + ks.length))
def markL : List OT → Int → List OT
  | [], _ => []
  | o :: r, k => markE o k :: markL r (k + cntE o)
end
theorem len_cnt : ∀ (l : List OT), l.length ≤ cntL l
  | [] => Nat.le_refl _
  | .mk _ _ _ ks kd :: r => by
    have := len_cnt r
    simp only [List.length_cons, cntL, cntE]
    omega
theorem markL_len : ∀ (l : List OT) (k : Int), (markL l k).length = l.length
  | [], _ => rfl
  | o :: r, k => by simp [markL, markL_len r]
theorem cntL_append : ∀ (l m : List OT), cntL (l ++ m) = cntL l + cntL m
  | [], m => by simp [cntL]
  | o :: r, m => by simp [cntL, cntL_append r m, Nat.add_assoc]
theorem markL_append : ∀ (l m : List OT) (k : Int), markL (l ++ m) k = markL l k ++ markL m (k + cntL l)
  | [], m, k => by simp [markL, cntL]
  | o :: r, m, k => by
    simp only [List.cons_append, markL, markL_append r m, cntL]
    congr 3
    push_cast
    omega

theorem cnt_at (kd : List OT) (i : Nat) (hi : i < kd.length) : cntL kd = cntL (kd.take i) + cntE kd[i] + cntL (kd.drop (i + 1)) := by
  have e : kd = kd.take i ++ kd[i] :: kd.drop (i + 1) := by rw [← List.drop_eq_getElem_cons hi, List.take_append_drop]
  calc cntL kd = cntL (kd.take i ++ kd[i] :: kd.drop (i + 1)) := by rw [← e]
    _ = _ := by rw [cntL_append]; simp only [cntL]; omega
theorem mark_at (kd : List OT) (k : Int) (i : Nat) (hi : i < kd.length) : (markL kd k)[i]? = some (markE kd[i] (k + cntL (kd.take i))) := by
  have e : kd = kd.take i ++ kd[i] :: kd.drop (i + 1) := by rw [← List.drop_eq_getElem_cons hi, List.take_append_drop]
  have e2 : markL kd k = markL (kd.take i) k ++ markE kd[i] (k + cntL (kd.take i)) :: markL (kd.drop (i + 1)) (k + cntL (kd.take i) + cntE kd[i]) := by
    conv => lhs; rw [e]
    rw [markL_append]; rfl
  rw [e2, List.getElem?_append_right (by rw [markL_len, List.length_take]; omega), markL_len, List.length_take, Nat.min_eq_left (by omega), Nat.sub_self]
  rfl

def C42 (kd : List OT) : Prop := ∀ (h : CH) (S : Nat → Prop) (v : Value) (k : Int), Rd h S (.arr 5 (encL (markL kd k))) [v] → (∀ n, S n → n < h.size) → 0 ≤ k → k + cntL kd ≤ 4294967296 →
    callW Try.prog 42 [v, .int .i64 k] h fun r h' => Ext h h' ∧ r = .int .i64 (k + cntL kd)

theorem cut_get {c l : List Value} {q m j : Nat} (e : (c.drop q).take m = l) (hj : j < m) : c[q + j]? = l[j]? := by
  rw [← e, List.getElem?_take, if_pos hj, List.getElem?_drop]

theorem c42_of {kd : List OT} (ih : ∀ o ∈ kd, C42 (kidsOf o)) : C42 kd := by
  intro h S v k hs hS k0 k1
  have hlc := len_cnt kd
  refine callW_of (wf _) Try.func42 m42_ok (by simp [m42]) ?_
  obtain ⟨a, cap, rfl, hel⟩ := hs.slice
  simp only [encL_len, markL_len] at hel ⊢
  simp -dsimp -implicitDefEqProofs only [Z00, Z01, Z02, Z03, Z04, Z05, Z06, Z07, Z08, Z09, Z0a, Z0b, Z0c, Z0d, Z0e, Z0f, Z0g, Z0h, Z0i, Z0j, Z0k, Z0l, Z0m, Z0n, Z0o, Z0p, Z0q, Z0r, Z0s, Z0t, Z0u, Z0v, Z0w, Z0x, Z0y, Z0z, Z10, Z11, Z12, Z13, Z14, Z15, Z16, Z17, Z18, Z19, ↓reduceIte, Nat.reduceEqDiff, Z1a, Z1b, Z1c, Z1d, Z1e, Z1f, Z1g, Z1h, Z1i, Z1j, Z1k, Z1l, Z1m, Z1n, Z1o, Z1p, Z1q, Z1r, Z1s, Z1t, Z1u, Z1v, Z1w, Z1x, Z1y, Z1z, Z20, Z21, Z22, Z23, Z24, Z25, Z26, Z27, Z28, Z29, Z2a, m42]
  refine loopT_of (wpC_loop (fun ρ h1 => ∃ (i : Nat), Ext h h1 ∧ i ≤ kd.length ∧ ρ 0 = .slice a kd.length cap ∧ ρ 1 = .int .i64 (k + cntL (kd.take i)) ∧ ρ 5 = .int .i64 i)
      (fun ρ h1 => kd.length - intOf (ρ 5)) ⟨0, Ext.refl h, Nat.zero_le _, ?_, ?_, ?_⟩ ?_)
  · simp -dsimp -implicitDefEqProofs only [Z00, Z01, Z02, Z03, Z04, Z05, Z06, Z07, Z08, Z09, Z0a, Z0b, Z0c, Z0d, Z0e, Z0f, Z0g, Z0h, Z0i, Z0j, Z0k, Z0l, Z0m, Z0n, Z0o, Z0p, Z0q, Z0r, Z0s, Z0t, Z0u, Z0v, Z0w, Z0x, Z0y, Z0z, Z10, Z11, Z12, Z13, Z14, Z15, Z16, Z17, Z18, Z19, ↓reduceIte, Nat.reduceEqDiff, Z1a, Z1b, Z1c, Z1d, Z1e, Z1f, Z1g, Z1h, Z1i, Z1j, Z1k, Z1l, Z1m, Z1n, Z1o, Z1p, Z1q, Z1r, Z1s, Z1t, Z1u, Z1v, Z1w, Z1x, Z1y, Z1z, Z20, Z21, Z22, Z23, Z24, Z25, Z26, Z27, Z28, Z29, Z2a]
  · simp -dsimp -implicitDefEqProofs only [Z00, Z01, Z02, Z03, Z04, Z05, Z06, Z07, Z08, Z09, Z0a, Z0b, Z0c, Z0d, Z0e, Z0f, Z0g, Z0h, Z0i, Z0j, Z0k, Z0l, Z0m, Z0n, Z0o, Z0p, Z0q, Z0r, Z0s, Z0t, Z0u, Z0v, Z0w, Z0x, Z0y, Z0z, Z10, Z11, Z12, Z13, Z14, Z15, Z16, Z17, Z18, Z19, ↓reduceIte, Nat.reduceEqDiff, Z1a, Z1b, Z1c, Z1d, Z1e, Z1f, Z1g, Z1h, Z1i, Z1j, Z1k, Z1l, Z1m, Z1n, Z1o, Z1p, Z1q, Z1r, Z1s, Z1t, Z1u, Z1v, Z1w, Z1x, Z1y, Z1z, Z20, Z21, Z22, Z23, Z24, Z25, Z26, Z27, Z28, Z29, Z2a]; simp [cntL]
  · simp -dsimp -implicitDefEqProofs only [Z00, Z01, Z02, Z03, Z04, Z05, Z06, Z07, Z08, Z09, Z0a, Z0b, Z0c, Z0d, Z0e, Z0f, Z0g, Z0h, Z0i, Z0j, Z0k, Z0l, Z0m, Z0n, Z0o, Z0p, Z0q, Z0r, Z0s, Z0t, Z0u, Z0v, Z0w, Z0x, Z0y, Z0z, Z10, Z11, Z12, Z13, Z14, Z15, Z16, Z17, Z18, Z19, ↓reduceIte, Nat.reduceEqDiff, Z1a, Z1b, Z1c, Z1d, Z1e, Z1f, Z1g, Z1h, Z1i, Z1j, Z1k, Z1l, Z1m, Z1n, Z1o, Z1p, Z1q, Z1r, Z1s, Z1t, Z1u, Z1v, Z1w, Z1x, Z1y, Z1z, Z20, Z21, Z22, Z23, Z24, Z25, Z26, Z27, Z28, Z29, Z2a]; rfl
  rintro ρ h1 ⟨i, hext, hi, e0, e1, e5⟩
  simp -dsimp -implicitDefEqProofs only [Z00, Z01, Z02, Z03, Z04, Z05, Z06, Z07, Z08, Z09, Z0a, Z0b, Z0c, Z0d, Z0e, Z0f, Z0g, Z0h, Z0i, Z0j, Z0k, Z0l, Z0m, Z0n, Z0o, Z0p, Z0q, Z0r, Z0s, Z0t, Z0u, Z0v, Z0w, Z0x, Z0y, Z0z, Z10, Z11, Z12, Z13, Z14, Z15, Z16, Z17, Z18, Z19, ↓reduceIte, Nat.reduceEqDiff, Z1a, Z1b, Z1c, Z1d, Z1e, Z1f, Z1g, Z1h, Z1i, Z1j, Z1k, Z1l, Z1m, Z1n, Z1o, Z1p, Z1q, Z1r, Z1s, Z1t, Z1u, Z1v, Z1w, Z1x, Z1y, Z1z, Z20, Z21, Z22, Z23, Z24, Z25, Z26, Z27, Z28, Z29, Z2a, e0, e1, e5]
  refine ifW_intro (fun hc => ?_) (fun hc => ?_)
  · simp only [decide_eq_true_eq] at hc
    have hi2 : i < kd.length := by omega
    obtain ⟨n, o, c, opn, rw, rfl, hSn, hat, _, hcs⟩ := hel i hi2
    have hcell := hcs i (encO (markE kd[i] (k + cntL (kd.take i)))) (by rw [encL_eq, List.getElem?_map, mark_at kd k i hi2]; rfl)
    have hcnt := cnt_at kd i hi2
    have ihi := ih kd[i] (List.getElem_mem hi2)
    have htk : cntL (kd.take (i + 1)) = cntL (kd.take i) + cntE kd[i] := by
      rw [List.take_succ_eq_append_getElem hi2, cntL_append]; simp [cntL]
    revert hcell hcnt ihi htk
    generalize kd[i] = x
    obtain ⟨xa, xb, xt, ks, ds⟩ := x
    intro hcell hcnt ihi htk
    simp only [markE] at hcell
    simp only [kidsOf] at ihi
    simp only [cntE] at hcnt htk
    obtain ⟨vk, vl, hl, hk, hd⟩ := hcell.obj
    have g0 := cut_get (j := 0) hl (by decide)
    have g1 := cut_get (j := 1) hl (by decide)
    have g2 := cut_get (j := 2) hl (by decide)
    have g3 := cut_get (j := 3) hl (by decide)
    have g4 := cut_get (j := 4) hl (by decide)
    simp only [List.getElem?_cons_zero, List.getElem?_cons_succ] at g0 g1 g2 g3 g4
    have at1 := (hext.old n (hS n hSn)).trans hat
    generalize hkk : k + (cntL (kd.take i) : Int) = kk at *
    simp -dsimp -implicitDefEqProofs only [Z00, Z01, Z02, Z03, Z04, Z05, Z06, Z07, Z08, Z09, Z0a, Z0b, Z0c, Z0d, Z0e, Z0f, Z0g, Z0h, Z0i, Z0j, Z0k, Z0l, Z0m, Z0n, Z0o, Z0p, Z0q, Z0r, Z0s, Z0t, Z0u, Z0v, Z0w, Z0x, Z0y, Z0z, Z10, Z11, Z12, Z13, Z14, Z15, Z16, Z17, Z18, Z19, ↓reduceIte, Nat.reduceEqDiff, Z1a, Z1b, Z1c, Z1d, Z1e, Z1f, Z1g, Z1h, Z1i, Z1j, Z1k, Z1l, Z1m, Z1n, Z1o, Z1p, Z1q, Z1r, Z1s, Z1t, Z1u, Z1v, Z1w, Z1x, Z1y, Z1z, Z20, Z21, Z22, Z23, Z24, Z25, Z26, Z27, Z28, Z29, Z2a, e0, e1, e5, s_iaddr (Int.natCast_nonneg i) hc, at1, Int.toNat_natCast, g0]
    refine ifW_f (by simp) ?_
    simp -dsimp -implicitDefEqProofs only [Z00, Z01, Z02, Z03, Z04, Z05, Z06, Z07, Z08, Z09, Z0a, Z0b, Z0c, Z0d, Z0e, Z0f, Z0g, Z0h, Z0i, Z0j, Z0k, Z0l, Z0m, Z0n, Z0o, Z0p, Z0q, Z0r, Z0s, Z0t, Z0u, Z0v, Z0w, Z0x, Z0y, Z0z, Z10, Z11, Z12, Z13, Z14, Z15, Z16, Z17, Z18, Z19, ↓reduceIte, Nat.reduceEqDiff, Z1a, Z1b, Z1c, Z1d, Z1e, Z1f, Z1g, Z1h, Z1i, Z1j, Z1k, Z1l, Z1m, Z1n, Z1o, Z1p, Z1q, Z1r, Z1s, Z1t, Z1u, Z1v, Z1w, Z1x, Z1y, Z1z, Z20, Z21, Z22, Z23, Z24, Z25, Z26, Z27, Z28, Z29, Z2a, e0, e1, e5, s_iaddr (Int.natCast_nonneg i) hc, at1, Int.toNat_natCast, g1]
    rw [wrap64 (by omega) (by omega)]
    refine ifW_f (by simp) ?_
    simp -dsimp -implicitDefEqProofs only [Z00, Z01, Z02, Z03, Z04, Z05, Z06, Z07, Z08, Z09, Z0a, Z0b, Z0c, Z0d, Z0e, Z0f, Z0g, Z0h, Z0i, Z0j, Z0k, Z0l, Z0m, Z0n, Z0o, Z0p, Z0q, Z0r, Z0s, Z0t, Z0u, Z0v, Z0w, Z0x, Z0y, Z0z, Z10, Z11, Z12, Z13, Z14, Z15, Z16, Z17, Z18, Z19, ↓reduceIte, Nat.reduceEqDiff, Z1a, Z1b, Z1c, Z1d, Z1e, Z1f, Z1g, Z1h, Z1i, Z1j, Z1k, Z1l, Z1m, Z1n, Z1o, Z1p, Z1q, Z1r, Z1s, Z1t, Z1u, Z1v, Z1w, Z1x, Z1y, Z1z, Z20, Z21, Z22, Z23, Z24, Z25, Z26, Z27, Z28, Z29, Z2a, e0, e1, e5, s_iaddr (Int.natCast_nonneg i) hc, at1, Int.toNat_natCast, g2]
    rw [wrap64 (by omega) (by omega)]
    refine callT_of (c67 (by omega) (by omega)) ?_
    rintro r h2 - ⟨ext2, rfl⟩
    have at2 := (ext2.old n (Nat.lt_of_lt_of_le (hS n hSn) hext.size)).trans at1
    have hext2 := hext.trans ext2
    have ek : kk + 1 + 1 = kk + 2 := by omega
    rw [ek]
    refine ⟨?_, ?_⟩
    · simp -dsimp -implicitDefEqProofs only [Z00, Z01, Z02, Z03, Z04, Z05, Z06, Z07, Z08, Z09, Z0a, Z0b, Z0c, Z0d, Z0e, Z0f, Z0g, Z0h, Z0i, Z0j, Z0k, Z0l, Z0m, Z0n, Z0o, Z0p, Z0q, Z0r, Z0s, Z0t, Z0u, Z0v, Z0w, Z0x, Z0y, Z0z, Z10, Z11, Z12, Z13, Z14, Z15, Z16, Z17, Z18, Z19, ↓reduceIte, Nat.reduceEqDiff, Z1a, Z1b, Z1c, Z1d, Z1e, Z1f, Z1g, Z1h, Z1i, Z1j, Z1k, Z1l, Z1m, Z1n, Z1o, Z1p, Z1q, Z1r, Z1s, Z1t, Z1u, Z1v, Z1w, Z1x, Z1y, Z1z, Z20, Z21, Z22, Z23, Z24, Z25, Z26, Z27, Z28, Z29, Z2a, e0, e1, e5, at2, g2, and_self]
    simp -dsimp -implicitDefEqProofs only [Z00, Z01, Z02, Z03, Z04, Z05, Z06, Z07, Z08, Z09, Z0a, Z0b, Z0c, Z0d, Z0e, Z0f, Z0g, Z0h, Z0i, Z0j, Z0k, Z0l, Z0m, Z0n, Z0o, Z0p, Z0q, Z0r, Z0s, Z0t, Z0u, Z0v, Z0w, Z0x, Z0y, Z0z, Z10, Z11, Z12, Z13, Z14, Z15, Z16, Z17, Z18, Z19, ↓reduceIte, Nat.reduceEqDiff, Z1a, Z1b, Z1c, Z1d, Z1e, Z1f, Z1g, Z1h, Z1i, Z1j, Z1k, Z1l, Z1m, Z1n, Z1o, Z1p, Z1q, Z1r, Z1s, Z1t, Z1u, Z1v, Z1w, Z1x, Z1y, Z1z, Z20, Z21, Z22, Z23, Z24, Z25, Z26, Z27, Z28, Z29, Z2a, e0, e1, e5]
    refine ifW_f (by simp) ?_
    simp -dsimp -implicitDefEqProofs only [Z00, Z01, Z02, Z03, Z04, Z05, Z06, Z07, Z08, Z09, Z0a, Z0b, Z0c, Z0d, Z0e, Z0f, Z0g, Z0h, Z0i, Z0j, Z0k, Z0l, Z0m, Z0n, Z0o, Z0p, Z0q, Z0r, Z0s, Z0t, Z0u, Z0v, Z0w, Z0x, Z0y, Z0z, Z10, Z11, Z12, Z13, Z14, Z15, Z16, Z17, Z18, Z19, ↓reduceIte, Nat.reduceEqDiff, Z1a, Z1b, Z1c, Z1d, Z1e, Z1f, Z1g, Z1h, Z1i, Z1j, Z1k, Z1l, Z1m, Z1n, Z1o, Z1p, Z1q, Z1r, Z1s, Z1t, Z1u, Z1v, Z1w, Z1x, Z1y, Z1z, Z20, Z21, Z22, Z23, Z24, Z25, Z26, Z27, Z28, Z29, Z2a, e0, e1, e5, s_iaddr (Int.natCast_nonneg i) hc, at2, Int.toNat_natCast, g3]
    rw [wrap64 (by omega) (by omega)]
    have ek : kk + 2 + 1 = kk + 3 := by omega
    rw [ek]
    refine callT_of (c41 (hk.ext hS hext2) (hext2.lt hS) (by omega) (by omega)) ?_
    rintro r h3 - ⟨ext3, rfl⟩
    have hext3 := hext2.trans ext3
    have at3 := (ext3.old n (Nat.lt_of_lt_of_le (hS n hSn) hext2.size)).trans at2
    simp -dsimp -implicitDefEqProofs only [Z00, Z01, Z02, Z03, Z04, Z05, Z06, Z07, Z08, Z09, Z0a, Z0b, Z0c, Z0d, Z0e, Z0f, Z0g, Z0h, Z0i, Z0j, Z0k, Z0l, Z0m, Z0n, Z0o, Z0p, Z0q, Z0r, Z0s, Z0t, Z0u, Z0v, Z0w, Z0x, Z0y, Z0z, Z10, Z11, Z12, Z13, Z14, Z15, Z16, Z17, Z18, Z19, ↓reduceIte, Nat.reduceEqDiff, Z1a, Z1b, Z1c, Z1d, Z1e, Z1f, Z1g, Z1h, Z1i, Z1j, Z1k, Z1l, Z1m, Z1n, Z1o, Z1p, Z1q, Z1r, Z1s, Z1t, Z1u, Z1v, Z1w, Z1x, Z1y, Z1z, Z20, Z21, Z22, Z23, Z24, Z25, Z26, Z27, Z28, Z29, Z2a, e0, e1, e5]
    refine ifW_f (by simp; omega) ?_
    simp -dsimp -implicitDefEqProofs only [Z00, Z01, Z02, Z03, Z04, Z05, Z06, Z07, Z08, Z09, Z0a, Z0b, Z0c, Z0d, Z0e, Z0f, Z0g, Z0h, Z0i, Z0j, Z0k, Z0l, Z0m, Z0n, Z0o, Z0p, Z0q, Z0r, Z0s, Z0t, Z0u, Z0v, Z0w, Z0x, Z0y, Z0z, Z10, Z11, Z12, Z13, Z14, Z15, Z16, Z17, Z18, Z19, ↓reduceIte, Nat.reduceEqDiff, Z1a, Z1b, Z1c, Z1d, Z1e, Z1f, Z1g, Z1h, Z1i, Z1j, Z1k, Z1l, Z1m, Z1n, Z1o, Z1p, Z1q, Z1r, Z1s, Z1t, Z1u, Z1v, Z1w, Z1x, Z1y, Z1z, Z20, Z21, Z22, Z23, Z24, Z25, Z26, Z27, Z28, Z29, Z2a, e0, e1, e5, s_iaddr (Int.natCast_nonneg i) hc, at3, Int.toNat_natCast, g4]
    refine callT_of (ihi h3 S vl _ (hd.ext hS hext3) (hext3.lt hS) (by omega) (by omega)) ?_
    rintro r h4 - ⟨ext4, rfl⟩
    simp -dsimp -implicitDefEqProofs only [Z00, Z01, Z02, Z03, Z04, Z05, Z06, Z07, Z08, Z09, Z0a, Z0b, Z0c, Z0d, Z0e, Z0f, Z0g, Z0h, Z0i, Z0j, Z0k, Z0l, Z0m, Z0n, Z0o, Z0p, Z0q, Z0r, Z0s, Z0t, Z0u, Z0v, Z0w, Z0x, Z0y, Z0z, Z10, Z11, Z12, Z13, Z14, Z15, Z16, Z17, Z18, Z19, ↓reduceIte, Nat.reduceEqDiff, Z1a, Z1b, Z1c, Z1d, Z1e, Z1f, Z1g, Z1h, Z1i, Z1j, Z1k, Z1l, Z1m, Z1n, Z1o, Z1p, Z1q, Z1r, Z1s, Z1t, Z1u, Z1v, Z1w, Z1x, Z1y, Z1z, Z20, Z21, Z22, Z23, Z24, Z25, Z26, Z27, Z28, Z29, Z2a, e0, e1, e5]
    refine ifW_f (by simp; omega) ?_
    simp -dsimp -implicitDefEqProofs only [Z00, Z01, Z02, Z03, Z04, Z05, Z06, Z07, Z08, Z09, Z0a, Z0b, Z0c, Z0d, Z0e, Z0f, Z0g, Z0h, Z0i, Z0j, Z0k, Z0l, Z0m, Z0n, Z0o, Z0p, Z0q, Z0r, Z0s, Z0t, Z0u, Z0v, Z0w, Z0x, Z0y, Z0z, Z10, Z11, Z12, Z13, Z14, Z15, Z16, Z17, Z18, Z19, ↓reduceIte, Nat.reduceEqDiff, Z1a, Z1b, Z1c, Z1d, Z1e, Z1f, Z1g, Z1h, Z1i, Z1j, Z1k, Z1l, Z1m, Z1n, Z1o, Z1p, Z1q, Z1r, Z1s, Z1t, Z1u, Z1v, Z1w, Z1x, Z1y, Z1z, Z20, Z21, Z22, Z23, Z24, Z25, Z26, Z27, Z28, Z29, Z2a, e0, e1, e5]
    rw [wrap64 (by omega) (by omega)]
    refine ⟨⟨i + 1, hext3.trans ext4, hi2, trivial, ?_, rfl⟩, ?_⟩
    · congr 1
      omega
    · simp only [intOf]; omega
  · simp only [decide_eq_false_iff_not] at hc
    have : i = kd.length := by omega
    subst this
    rw [List.take_length] at e1
    simp -dsimp -implicitDefEqProofs only [Z00, Z01, Z02, Z03, Z04, Z05, Z06, Z07, Z08, Z09, Z0a, Z0b, Z0c, Z0d, Z0e, Z0f, Z0g, Z0h, Z0i, Z0j, Z0k, Z0l, Z0m, Z0n, Z0o, Z0p, Z0q, Z0r, Z0s, Z0t, Z0u, Z0v, Z0w, Z0x, Z0y, Z0z, Z10, Z11, Z12, Z13, Z14, Z15, Z16, Z17, Z18, Z19, ↓reduceIte, Nat.reduceEqDiff, Z1a, Z1b, Z1c, Z1d, Z1e, Z1f, Z1g, Z1h, Z1i, Z1j, Z1k, Z1l, Z1m, Z1n, Z1o, Z1p, Z1q, Z1r, Z1s, Z1t, Z1u, Z1v, Z1w, Z1x, Z1y, Z1z, Z20, Z21, Z22, Z23, Z24, Z25, Z26, Z27, Z28, Z29, Z2a, retK, resC, resV, e0, e1, e5]
    exact ⟨hext, trivial⟩

theorem kids_lt {o : OT} {kd : List OT} (ho : o ∈ kd) : SizeOf.sizeOf (kidsOf o) < SizeOf.sizeOf kd := by
  have := List.sizeOf_lt_of_mem ho
  cases o
  simp only [OT.mk.sizeOf_spec] at this
  simp only [kidsOf]
  omega
theorem c42 (kd : List OT) : C42 kd := c42_of fun o ho => c42 (kidsOf o)
termination_by SizeOf.sizeOf kd
decreasing_by exact kids_lt ho

end Go.Proofs.Ytdfmdclfnhgjiaa.Can
