/- Objects of the documents: how their trees read, and what is taken of a budget.
   Conditions: those that each law names. -/
import Derived.Test.YtdfmdclfnhgjiaaM1
import Derived.Test.YtdfmdclfnhgjiaaObZero
import Derived.Test.YtdfmdclfnhgjiaaCanT
set_option linter.unusedVariables false
set_option linter.unusedSimpArgs false
namespace Go.Proofs.Ytdfmdclfnhgjiaa.Can
open Go

def intOf : Value → Nat
  | .int _ i => i.toNat
  | _ => 0

/-- A slice that may be read. -/
theorem Rd.slice {h : CH} {S : Nat → Prop} {k : Nat} {ds : List D} {v : Value} (g : Rd h S (.arr k ds) [v]) : ∃ a cap, v = .slice a ds.length cap ∧ (∀ i, i < ds.length → ∃ n o c opn rw, a = some ⟨n, o, none⟩ ∧ S n ∧ h.at_ n = .cells c k opn rw ∧ o + ds.length * k ≤ c.length ∧
    ∀ j d, ds[j]? = some d → Rd h S d ((c.drop (o + j * k)).take k)) := by
  simp only [Rd] at g
  obtain ⟨hw, ⟨rfl, e⟩ | ⟨n, o, c, opn, rw, cap, e1, e2, e3, e4, e5⟩⟩ := g
  · simp only [List.cons.injEq, and_true] at e
    exact ⟨none, 0, e, fun i hi => by simp at hi⟩
  · simp only [List.cons.injEq, and_true] at e1
    exact ⟨_, cap, e1, fun i hi => ⟨n, o, c, opn, rw, rfl, e2, e3, e4, fun j d e => e5.elem hw e⟩⟩

inductive OT where
  | mk (kind num : Int) (text : ByteArray) (keys : List ByteArray) (kids : List OT)

def encT (s : ByteArray) : D := .val (.string s)
def encK (ks : List ByteArray) : D := .arr 1 (ks.map encT)
mutual
def encO : OT → D
  | .mk a b t ks kd => .str [.val (.int .i64 a), .val (.int .i64 b), .val (.string t), encK ks, .arr 5 (encL kd)]
def encL : List OT → List D
  | [] => []
  | o :: r => encO o :: encL r
end
theorem encL_eq : ∀ l, encL l = l.map encO
  | [] => rfl
  | o :: r => by simp [encL, encL_eq r]
theorem encL_len (l : List OT) : (encL l).length = l.length := by simp [encL_eq]

theorem Rd.obj {h : CH} {S : Nat → Prop} {a b : Int} {t : ByteArray} {ks : List ByteArray} {kd : List OT} {cs : List Value} (g : Rd h S (encO (.mk a b t ks kd)) cs) :
    ∃ vk vl, cs = [.int .i64 a, .int .i64 b, .string t, vk, vl] ∧ Rd h S (encK ks) [vk] ∧ Rd h S (.arr 5 (encL kd)) [vl] := by
  simp only [encO, Rd, Rds] at g
  obtain ⟨_, _, rfl, ⟨rfl, _⟩, _, _, rfl, ⟨rfl, _⟩, _, _, rfl, ⟨rfl, _⟩, c1, _, rfl, g4, c2, _, rfl, g5, rfl⟩ := g
  have l1 := g4.len
  have g5' : Rd h S (.arr 5 (encL kd)) c2 := by simp only [Rd]; exact g5
  have l2 := g5'.len
  simp only [encK, wid] at l1 l2
  obtain ⟨vk, rfl⟩ := List.length_eq_one_iff.1 l1
  obtain ⟨vl, rfl⟩ := List.length_eq_one_iff.1 l2
  exact ⟨vk, vl, by simp, g4, g5'⟩

theorem wid_obj (o : OT) : wid (encO o) = 5 := by
  cases o; simp [encO, encK, wid, wids]

/-- Texts and slices are no longer than the machine lets them be. -/
def okS (s : ByteArray) : Prop := s.size ≤ 9223372036854775807
mutual
def okO : OT → Prop
  | .mk _ _ t ks kd => okS t ∧ ks.length ≤ 9223372036854775807 ∧ (∀ s ∈ ks, okS s) ∧ kd.length ≤ 9223372036854775807 ∧ okL kd
def okL : List OT → Prop
  | [] => True
  | o :: r => okO o ∧ okL r
end
theorem okL_mem : ∀ {l : List OT}, okL l → ∀ o ∈ l, okO o
  | x :: r, g, o, ho => by
    simp only [okL] at g
    rcases List.mem_cons.1 ho with rfl | ho
    · exact g.1
    · exact okL_mem g.2 o ho

def szS : List ByteArray → Int → Int
  | [], l => l
  | s :: r, l => if l - s.size < 0 then -1 else szS r (l - s.size)
mutual
def szO : OT → Int → Int
  | .mk _ _ t ks kd, l => if l - t.size < 0 then -1 else
      let l := if l - t.size - ks.length < 0 then -1 else szS ks (l - t.size - ks.length)
      if l < 0 then -1 else if l - kd.length < 0 then -1 else szL kd (l - kd.length)
def szL : List OT → Int → Int
  | [], l => l
  | o :: r, l => if szO o l < 0 then -1 else szL r (szO o l)
end
theorem szS_le : ∀ (ss : List ByteArray) (l : Int), 0 ≤ l → szS ss l ≤ l ∧ -1 ≤ szS ss l
  | [], l, h => ⟨Int.le_refl l, by simp only [szS]; omega⟩
  | s :: r, l, h => by
    simp only [szS]
    split
    · omega
    · have := szS_le r (l - s.size) (by omega); omega
mutual
theorem szO_le : ∀ (o : OT) (l : Int), 0 ≤ l → szO o l ≤ l ∧ -1 ≤ szO o l
  | .mk _ _ t ks kd, l, h => by
    simp only [szO]
    split
    · omega
    · split
      · omega
      · split
        · omega
        · split at *
          · omega
          · rename_i h1 h2 h3 h4
            have h5 := szS_le ks (l - t.size - ks.length) (by omega)
            have h6 := szL_le kd (szS ks (l - t.size - ks.length) - kd.length) (by omega)
            omega
theorem szL_le : ∀ (os : List OT) (l : Int), 0 ≤ l → szL os l ≤ l ∧ -1 ≤ szL os l
  | [], l, h => by simp only [szL]; omega
  | o :: r, l, h => by
    simp only [szL]
    have := szO_le o l h
    split
    · omega
    · have := szL_le r (szO o l) (by omega); omega
end

theorem c29 {h : CH} {S : Nat → Prop} {v : Value} {ss : List ByteArray} {left : Int} (hs : Rd h S (encK ss) [v]) (hl : 0 ≤ left) (hl2 : left ≤ 1048576) (hb : ss.length ≤ 9223372036854775807) (hz : ∀ s ∈ ss, okS s) :
    callW Try.prog 29 [v, .int .i64 left] h fun r h' => h' = h ∧ r = .int .i64 (if left - ss.length < 0 then -1 else szS ss (left - ss.length)) := by
  refine callW_of (wf _) Try.func29 m29_ok (by simp [m29]) ?_
  obtain ⟨a, cap, rfl, hel⟩ := hs.slice
  simp only [List.length_map] at hel ⊢
  simp -dsimp -implicitDefEqProofs only [Z00, Z01, Z02, Z03, Z04, Z05, Z06, Z07, Z08, Z09, Z0a, Z0b, Z0c, Z0d, Z0e, Z0f, Z0g, Z0h, Z0i, Z0j, Z0k, Z0l, Z0m, Z0n, Z0o, Z0p, Z0q, Z0r, Z0s, Z0t, Z0u, Z0v, Z0w, Z0x, Z0y, Z0z, Z10, Z11, Z12, Z13, Z14, Z15, Z16, Z17, Z18, Z19, ↓reduceIte, Nat.reduceEqDiff, Z1a, Z1b, Z1c, Z1d, Z1e, Z1f, Z1g, Z1h, Z1i, Z1j, Z1k, Z1l, Z1m, Z1n, Z1o, Z1p, Z1q, Z1r, Z1s, Z1t, Z1u, Z1v, Z1w, Z1x, Z1y, Z1z, Z20, Z21, Z22, Z23, Z24, Z25, Z26, Z27, Z28, Z29, Z2a, m29]
  rw [wrap64 (by omega) (by omega)]
  refine ifW_intro (fun hc => ?_) (fun hc => ?_)
  · simp only [decide_eq_true_eq] at hc
    simp -dsimp -implicitDefEqProofs only [Z00, Z01, Z02, Z03, Z04, Z05, Z06, Z07, Z08, Z09, Z0a, Z0b, Z0c, Z0d, Z0e, Z0f, Z0g, Z0h, Z0i, Z0j, Z0k, Z0l, Z0m, Z0n, Z0o, Z0p, Z0q, Z0r, Z0s, Z0t, Z0u, Z0v, Z0w, Z0x, Z0y, Z0z, Z10, Z11, Z12, Z13, Z14, Z15, Z16, Z17, Z18, Z19, ↓reduceIte, Nat.reduceEqDiff, Z1a, Z1b, Z1c, Z1d, Z1e, Z1f, Z1g, Z1h, Z1i, Z1j, Z1k, Z1l, Z1m, Z1n, Z1o, Z1p, Z1q, Z1r, Z1s, Z1t, Z1u, Z1v, Z1w, Z1x, Z1y, Z1z, Z20, Z21, Z22, Z23, Z24, Z25, Z26, Z27, Z28, Z29, Z2a, retK, resC, resV]
    exact ⟨trivial, by rw [if_pos hc]⟩
  · simp only [decide_eq_false_iff_not] at hc
    simp -dsimp -implicitDefEqProofs only [Z00, Z01, Z02, Z03, Z04, Z05, Z06, Z07, Z08, Z09, Z0a, Z0b, Z0c, Z0d, Z0e, Z0f, Z0g, Z0h, Z0i, Z0j, Z0k, Z0l, Z0m, Z0n, Z0o, Z0p, Z0q, Z0r, Z0s, Z0t, Z0u, Z0v, Z0w, Z0x, Z0y, Z0z, Z10, Z11, Z12, Z13, Z14, Z15, Z16, Z17, Z18, Z19, ↓reduceIte, Nat.reduceEqDiff, Z1a, Z1b, Z1c, Z1d, Z1e, Z1f, Z1g, Z1h, Z1i, Z1j, Z1k, Z1l, Z1m, Z1n, Z1o, Z1p, Z1q, Z1r, Z1s, Z1t, Z1u, Z1v, Z1w, Z1x, Z1y, Z1z, Z20, Z21, Z22, Z23, Z24, Z25, Z26, Z27, Z28, Z29, Z2a]
    rw [if_neg hc]
    refine loopT_of (wpC_loop (fun ρ h1 => ∃ (i : Nat) (l : Int), h1 = h ∧ i ≤ ss.length ∧ ρ 0 = .slice a ss.length cap ∧ ρ 1 = .int .i64 l ∧ ρ 5 = .int .i64 i ∧ 0 ≤ l ∧ l ≤ 1048576 ∧ szS ss (left - ss.length) = szS (ss.drop i) l)
      (fun ρ h1 => ss.length - intOf (ρ 5)) ⟨0, left - ss.length, rfl, Nat.zero_le _, ?_, ?_, ?_, ?_, ?_, ?_⟩ ?_)
    · simp -dsimp -implicitDefEqProofs only [Z00, Z01, Z02, Z03, Z04, Z05, Z06, Z07, Z08, Z09, Z0a, Z0b, Z0c, Z0d, Z0e, Z0f, Z0g, Z0h, Z0i, Z0j, Z0k, Z0l, Z0m, Z0n, Z0o, Z0p, Z0q, Z0r, Z0s, Z0t, Z0u, Z0v, Z0w, Z0x, Z0y, Z0z, Z10, Z11, Z12, Z13, Z14, Z15, Z16, Z17, Z18, Z19, ↓reduceIte, Nat.reduceEqDiff, Z1a, Z1b, Z1c, Z1d, Z1e, Z1f, Z1g, Z1h, Z1i, Z1j, Z1k, Z1l, Z1m, Z1n, Z1o, Z1p, Z1q, Z1r, Z1s, Z1t, Z1u, Z1v, Z1w, Z1x, Z1y, Z1z, Z20, Z21, Z22, Z23, Z24, Z25, Z26, Z27, Z28, Z29, Z2a]
    · simp -dsimp -implicitDefEqProofs only [Z00, Z01, Z02, Z03, Z04, Z05, Z06, Z07, Z08, Z09, Z0a, Z0b, Z0c, Z0d, Z0e, Z0f, Z0g, Z0h, Z0i, Z0j, Z0k, Z0l, Z0m, Z0n, Z0o, Z0p, Z0q, Z0r, Z0s, Z0t, Z0u, Z0v, Z0w, Z0x, Z0y, Z0z, Z10, Z11, Z12, Z13, Z14, Z15, Z16, Z17, Z18, Z19, ↓reduceIte, Nat.reduceEqDiff, Z1a, Z1b, Z1c, Z1d, Z1e, Z1f, Z1g, Z1h, Z1i, Z1j, Z1k, Z1l, Z1m, Z1n, Z1o, Z1p, Z1q, Z1r, Z1s, Z1t, Z1u, Z1v, Z1w, Z1x, Z1y, Z1z, Z20, Z21, Z22, Z23, Z24, Z25, Z26, Z27, Z28, Z29, Z2a]
    · simp -dsimp -implicitDefEqProofs only [Z00, Z01, Z02, Z03, Z04, Z05, Z06, Z07, Z08, Z09, Z0a, Z0b, Z0c, Z0d, Z0e, Z0f, Z0g, Z0h, Z0i, Z0j, Z0k, Z0l, Z0m, Z0n, Z0o, Z0p, Z0q, Z0r, Z0s, Z0t, Z0u, Z0v, Z0w, Z0x, Z0y, Z0z, Z10, Z11, Z12, Z13, Z14, Z15, Z16, Z17, Z18, Z19, ↓reduceIte, Nat.reduceEqDiff, Z1a, Z1b, Z1c, Z1d, Z1e, Z1f, Z1g, Z1h, Z1i, Z1j, Z1k, Z1l, Z1m, Z1n, Z1o, Z1p, Z1q, Z1r, Z1s, Z1t, Z1u, Z1v, Z1w, Z1x, Z1y, Z1z, Z20, Z21, Z22, Z23, Z24, Z25, Z26, Z27, Z28, Z29, Z2a]; rfl
    · omega
    · omega
    · simp
    · rintro ρ h1 ⟨i, l, rfl, hi, e0, e1, e5, l0, l1, hsz⟩
      simp -dsimp -implicitDefEqProofs only [Z00, Z01, Z02, Z03, Z04, Z05, Z06, Z07, Z08, Z09, Z0a, Z0b, Z0c, Z0d, Z0e, Z0f, Z0g, Z0h, Z0i, Z0j, Z0k, Z0l, Z0m, Z0n, Z0o, Z0p, Z0q, Z0r, Z0s, Z0t, Z0u, Z0v, Z0w, Z0x, Z0y, Z0z, Z10, Z11, Z12, Z13, Z14, Z15, Z16, Z17, Z18, Z19, ↓reduceIte, Nat.reduceEqDiff, Z1a, Z1b, Z1c, Z1d, Z1e, Z1f, Z1g, Z1h, Z1i, Z1j, Z1k, Z1l, Z1m, Z1n, Z1o, Z1p, Z1q, Z1r, Z1s, Z1t, Z1u, Z1v, Z1w, Z1x, Z1y, Z1z, Z20, Z21, Z22, Z23, Z24, Z25, Z26, Z27, Z28, Z29, Z2a, e0, e1, e5]
      refine ifW_intro (fun hc => ?_) (fun hc => ?_)
      · simp only [decide_eq_true_eq] at hc
        have hi2 : i < ss.length := by omega
        obtain ⟨n, o, c, opn, rw, rfl, _, hat, _, hcs⟩ := hel i hi2
        have hcell := (hcs i (encT ss[i]) (by simp [hi2])).val_cell
        have hzi := hz ss[i] (List.getElem_mem hi2)
        unfold okS at hzi
        have hdrop : ss.drop i = ss[i] :: ss.drop (i + 1) := List.drop_eq_getElem_cons hi2
        rw [hdrop] at hsz
        simp only [szS] at hsz
        simp only [Nat.mul_one] at hcell
        simp -dsimp -implicitDefEqProofs only [Z00, Z01, Z02, Z03, Z04, Z05, Z06, Z07, Z08, Z09, Z0a, Z0b, Z0c, Z0d, Z0e, Z0f, Z0g, Z0h, Z0i, Z0j, Z0k, Z0l, Z0m, Z0n, Z0o, Z0p, Z0q, Z0r, Z0s, Z0t, Z0u, Z0v, Z0w, Z0x, Z0y, Z0z, Z10, Z11, Z12, Z13, Z14, Z15, Z16, Z17, Z18, Z19, ↓reduceIte, Nat.reduceEqDiff, Z1a, Z1b, Z1c, Z1d, Z1e, Z1f, Z1g, Z1h, Z1i, Z1j, Z1k, Z1l, Z1m, Z1n, Z1o, Z1p, Z1q, Z1r, Z1s, Z1t, Z1u, Z1v, Z1w, Z1x, Z1y, Z1z, Z20, Z21, Z22, Z23, Z24, Z25, Z26, Z27, Z28, Z29, Z2a, e0, e1, e5, s_iaddr (Int.natCast_nonneg i) hc, s_load1 hat, Nat.mul_one, Int.toNat_natCast, hcell]
        rw [wrap64 (by omega) (by omega)]
        refine ifW_intro (fun hc => ?_) (fun hc => ?_)
        · simp only [decide_eq_true_eq] at hc
          simp -dsimp -implicitDefEqProofs only [Z00, Z01, Z02, Z03, Z04, Z05, Z06, Z07, Z08, Z09, Z0a, Z0b, Z0c, Z0d, Z0e, Z0f, Z0g, Z0h, Z0i, Z0j, Z0k, Z0l, Z0m, Z0n, Z0o, Z0p, Z0q, Z0r, Z0s, Z0t, Z0u, Z0v, Z0w, Z0x, Z0y, Z0z, Z10, Z11, Z12, Z13, Z14, Z15, Z16, Z17, Z18, Z19, ↓reduceIte, Nat.reduceEqDiff, Z1a, Z1b, Z1c, Z1d, Z1e, Z1f, Z1g, Z1h, Z1i, Z1j, Z1k, Z1l, Z1m, Z1n, Z1o, Z1p, Z1q, Z1r, Z1s, Z1t, Z1u, Z1v, Z1w, Z1x, Z1y, Z1z, Z20, Z21, Z22, Z23, Z24, Z25, Z26, Z27, Z28, Z29, Z2a, retK, resC, resV]
          rw [if_pos hc] at hsz
          exact ⟨trivial, by rw [hsz]⟩
        · simp only [decide_eq_false_iff_not] at hc
          rw [if_neg hc] at hsz
          simp -dsimp -implicitDefEqProofs only [Z00, Z01, Z02, Z03, Z04, Z05, Z06, Z07, Z08, Z09, Z0a, Z0b, Z0c, Z0d, Z0e, Z0f, Z0g, Z0h, Z0i, Z0j, Z0k, Z0l, Z0m, Z0n, Z0o, Z0p, Z0q, Z0r, Z0s, Z0t, Z0u, Z0v, Z0w, Z0x, Z0y, Z0z, Z10, Z11, Z12, Z13, Z14, Z15, Z16, Z17, Z18, Z19, ↓reduceIte, Nat.reduceEqDiff, Z1a, Z1b, Z1c, Z1d, Z1e, Z1f, Z1g, Z1h, Z1i, Z1j, Z1k, Z1l, Z1m, Z1n, Z1o, Z1p, Z1q, Z1r, Z1s, Z1t, Z1u, Z1v, Z1w, Z1x, Z1y, Z1z, Z20, Z21, Z22, Z23, Z24, Z25, Z26, Z27, Z28, Z29, Z2a, e0, e1, e5]
          rw [wrap64 (by omega) (by omega)]
          refine ⟨⟨i + 1, _, trivial, hi2, trivial, rfl, rfl, by omega, by omega, hsz⟩, ?_⟩
          simp only [intOf]; omega
      · simp only [decide_eq_false_iff_not] at hc
        have : i = ss.length := by omega
        subst this
        simp -dsimp -implicitDefEqProofs only [Z00, Z01, Z02, Z03, Z04, Z05, Z06, Z07, Z08, Z09, Z0a, Z0b, Z0c, Z0d, Z0e, Z0f, Z0g, Z0h, Z0i, Z0j, Z0k, Z0l, Z0m, Z0n, Z0o, Z0p, Z0q, Z0r, Z0s, Z0t, Z0u, Z0v, Z0w, Z0x, Z0y, Z0z, Z10, Z11, Z12, Z13, Z14, Z15, Z16, Z17, Z18, Z19, ↓reduceIte, Nat.reduceEqDiff, Z1a, Z1b, Z1c, Z1d, Z1e, Z1f, Z1g, Z1h, Z1i, Z1j, Z1k, Z1l, Z1m, Z1n, Z1o, Z1p, Z1q, Z1r, Z1s, Z1t, Z1u, Z1v, Z1w, Z1x, Z1y, Z1z, Z20, Z21, Z22, Z23, Z24, Z25, Z26, Z27, Z28, Z29, Z2a, retK, resC, resV, e0, e1, e5]
        simp only [List.drop_length, szS] at hsz
        exact ⟨trivial, by rw [hsz]⟩

end Go.Proofs.Ytdfmdclfnhgjiaa.Can
