/- Marks on one object, set and found.
   Conditions: those that each law names. -/
import Derived.Test.YtdfmdclfnhgjiaaObK
set_option linter.unusedVariables false
set_option linter.unusedSimpArgs false
namespace Go.Proofs.Ytdfmdclfnhgjiaa.Can
open Go

def cntO : OT → Nat
  | .mk _ _ _ ks kd => ks.length + cntL kd
def markO : OT → Int → OT
  | .mk a b t ks kd, k => .mk a b t (mkK ks k) (markL kd (k + ks.length))

theorem c12 {h : CH} {cs : List Value} {o : OT} {F : List Nat} {k : Int} (hs : Own h (encO o) cs F) (hF : ∀ n ∈ F, n < h.size) (k0 : 0 ≤ k) (k1 : k + cntO o ≤ 4294967296) :
    callW Try.prog 12 [.agg cs.toArray, .int .i64 k] h fun r h' => Chg h h' F ∧ r = .int .i64 (k + cntO o) ∧ Own h' (encO (markO o k)) cs F := by
  refine callW_of (wf _) Try.func12 m12_ok (by simp [m12]) ?_
  obtain ⟨a, b, t, ks, kd⟩ := o
  have hones := hs.rd.ones
  obtain ⟨vk, vl, Fk, Fl, rfl, rfl, hdkl, hk, hd⟩ := own_obj_inv hs
  simp only [cntO] at k1
  simp -dsimp -implicitDefEqProofs only [Z00, Z01, Z02, Z03, Z04, Z05, Z06, Z07, Z08, Z09, Z0a, Z0b, Z0c, Z0d, Z0e, Z0f, Z0g, Z0h, Z0i, Z0j, Z0k, Z0l, Z0m, Z0n, Z0o, Z0p, Z0q, Z0r, Z0s, Z0t, Z0u, Z0v, Z0w, Z0x, Z0y, Z0z, Z10, Z11, Z12, Z13, Z14, Z15, Z16, Z17, Z18, Z19, ↓reduceIte, Nat.reduceEqDiff, Z1a, Z1b, Z1c, Z1d, Z1e, Z1f, Z1g, Z1h, Z1i, Z1j, Z1k, Z1l, Z1m, Z1n, Z1o, Z1p, Z1q, Z1r, Z1s, Z1t, Z1u, Z1v, Z1w, Z1x, Z1y, Z1z, Z20, Z21, Z22, Z23, Z24, Z25, Z26, Z27, Z28, Z29, Z2a, m12]
  rw [s_box hones]
  obtain ⟨h1, hh⟩ : ∃ h1, h1 = h.push (.cells [.int .i64 a, .int .i64 b, .string t, vk, vl] 5 false true) := ⟨_, rfl⟩
  have ext1 : Ext h h1 := by rw [hh]; exact Ext.push _ _
  have sz1 : h1.size = h.size + 1 := by rw [hh]; rfl
  have at1 : h1.at_ h.size = .cells [.int .i64 a, .int .i64 b, .string t, vk, vl] 5 false true := by rw [hh]; exact push_new
  rw [← hh]
  clear hh
  have bk : ∀ n ∈ Fk, n < h.size := fun n hn => hF n (List.mem_append_left _ hn)
  have bl : ∀ n ∈ Fl, n < h.size := fun n hn => hF n (List.mem_append_right _ hn)
  simp -dsimp -implicitDefEqProofs only [Z00, Z01, Z02, Z03, Z04, Z05, Z06, Z07, Z08, Z09, Z0a, Z0b, Z0c, Z0d, Z0e, Z0f, Z0g, Z0h, Z0i, Z0j, Z0k, Z0l, Z0m, Z0n, Z0o, Z0p, Z0q, Z0r, Z0s, Z0t, Z0u, Z0v, Z0w, Z0x, Z0y, Z0z, Z10, Z11, Z12, Z13, Z14, Z15, Z16, Z17, Z18, Z19, ↓reduceIte, Nat.reduceEqDiff, Z1a, Z1b, Z1c, Z1d, Z1e, Z1f, Z1g, Z1h, Z1i, Z1j, Z1k, Z1l, Z1m, Z1n, Z1o, Z1p, Z1q, Z1r, Z1s, Z1t, Z1u, Z1v, Z1w, Z1x, Z1y, Z1z, Z20, Z21, Z22, Z23, Z24, Z25, Z26, Z27, Z28, Z29, Z2a, at1, Nat.zero_add, List.getElem?_cons_succ, List.getElem?_cons_zero]
  refine callT_of (c39 (hk.ext bk ext1) (fun n hn => by have := bk n hn; omega) k0 (by omega)) ?_
  rintro r h2 - ⟨ch2, rfl, own2⟩
  have s2 := ch2.1
  have at2 := (ch2.2 h.size (by omega) (fun hm => by have := bk _ hm; omega)).trans at1
  simp -dsimp -implicitDefEqProofs only [Z00, Z01, Z02, Z03, Z04, Z05, Z06, Z07, Z08, Z09, Z0a, Z0b, Z0c, Z0d, Z0e, Z0f, Z0g, Z0h, Z0i, Z0j, Z0k, Z0l, Z0m, Z0n, Z0o, Z0p, Z0q, Z0r, Z0s, Z0t, Z0u, Z0v, Z0w, Z0x, Z0y, Z0z, Z10, Z11, Z12, Z13, Z14, Z15, Z16, Z17, Z18, Z19, ↓reduceIte, Nat.reduceEqDiff, Z1a, Z1b, Z1c, Z1d, Z1e, Z1f, Z1g, Z1h, Z1i, Z1j, Z1k, Z1l, Z1m, Z1n, Z1o, Z1p, Z1q, Z1r, Z1s, Z1t, Z1u, Z1v, Z1w, Z1x, Z1y, Z1z, Z20, Z21, Z22, Z23, Z24, Z25, Z26, Z27, Z28, Z29, Z2a, at2, Nat.zero_add, List.getElem?_cons_succ, List.getElem?_cons_zero]
  have hd2 : Own h2 (.arr 5 (encL kd)) [vl] Fl := hd.keep fun n hn => (ch2.2 n (by have := bl n hn; omega) (fun hm => hdkl n hm hn)).trans (ext1.old n (bl n hn))
  refine callT_of (c40 kd h2 vl Fl _ hd2 (fun n hn => by have := bl n hn; omega) (by omega) (by omega)) ?_
  rintro r h3 - ⟨ch3, rfl, own3⟩
  have s3 := ch3.1
  simp -dsimp -implicitDefEqProofs only [Z00, Z01, Z02, Z03, Z04, Z05, Z06, Z07, Z08, Z09, Z0a, Z0b, Z0c, Z0d, Z0e, Z0f, Z0g, Z0h, Z0i, Z0j, Z0k, Z0l, Z0m, Z0n, Z0o, Z0p, Z0q, Z0r, Z0s, Z0t, Z0u, Z0v, Z0w, Z0x, Z0y, Z0z, Z10, Z11, Z12, Z13, Z14, Z15, Z16, Z17, Z18, Z19, ↓reduceIte, Nat.reduceEqDiff, Z1a, Z1b, Z1c, Z1d, Z1e, Z1f, Z1g, Z1h, Z1i, Z1j, Z1k, Z1l, Z1m, Z1n, Z1o, Z1p, Z1q, Z1r, Z1s, Z1t, Z1u, Z1v, Z1w, Z1x, Z1y, Z1z, Z20, Z21, Z22, Z23, Z24, Z25, Z26, Z27, Z28, Z29, Z2a, retK, resC, resV]
  refine ⟨⟨by omega, fun n hn hm => ?_⟩, ?_, ?_⟩
  · exact (ch3.2 n (by omega) (fun e => hm (List.mem_append_right _ e))).trans ((ch2.2 n (by omega) (fun e => hm (List.mem_append_left _ e))).trans (ext1.old n hn))
  · simp only [cntO]; congr 1; push_cast; omega
  · exact own_obj (own2.keep fun n hn => ch3.2 n (by have := bk n hn; omega) (hdkl n hn)) own3 hdkl

theorem c13 {h : CH} {S : Nat → Prop} {cs : List Value} {o : OT} {k : Int} (hs : Rd h S (encO (markO o k)) cs) (hS : ∀ n, S n → n < h.size) (k0 : 0 ≤ k) (k1 : k + cntO o ≤ 4294967296) :
    callW Try.prog 13 [.agg cs.toArray, .int .i64 k] h fun r h' => Ext h h' ∧ r = .int .i64 (k + cntO o) := by
  refine callW_of (wf _) Try.func13 m13_ok (by simp [m13]) ?_
  obtain ⟨a, b, t, ks, kd⟩ := o
  simp only [markO] at hs
  obtain ⟨vk, vl, rfl, hk, hd⟩ := hs.obj
  simp only [cntO] at k1
  simp -dsimp -implicitDefEqProofs only [Z00, Z01, Z02, Z03, Z04, Z05, Z06, Z07, Z08, Z09, Z0a, Z0b, Z0c, Z0d, Z0e, Z0f, Z0g, Z0h, Z0i, Z0j, Z0k, Z0l, Z0m, Z0n, Z0o, Z0p, Z0q, Z0r, Z0s, Z0t, Z0u, Z0v, Z0w, Z0x, Z0y, Z0z, Z10, Z11, Z12, Z13, Z14, Z15, Z16, Z17, Z18, Z19, ↓reduceIte, Nat.reduceEqDiff, Z1a, Z1b, Z1c, Z1d, Z1e, Z1f, Z1g, Z1h, Z1i, Z1j, Z1k, Z1l, Z1m, Z1n, Z1o, Z1p, Z1q, Z1r, Z1s, Z1t, Z1u, Z1v, Z1w, Z1x, Z1y, Z1z, Z20, Z21, Z22, Z23, Z24, Z25, Z26, Z27, Z28, Z29, Z2a, m13]
  rw [s_box hs.ones]
  obtain ⟨h1, hh⟩ : ∃ h1, h1 = h.push (.cells [.int .i64 a, .int .i64 b, .string t, vk, vl] 5 false true) := ⟨_, rfl⟩
  have ext1 : Ext h h1 := by rw [hh]; exact Ext.push _ _
  have sz1 : h1.size = h.size + 1 := by rw [hh]; rfl
  have at1 : h1.at_ h.size = .cells [.int .i64 a, .int .i64 b, .string t, vk, vl] 5 false true := by rw [hh]; exact push_new
  rw [← hh]
  clear hh
  simp -dsimp -implicitDefEqProofs only [Z00, Z01, Z02, Z03, Z04, Z05, Z06, Z07, Z08, Z09, Z0a, Z0b, Z0c, Z0d, Z0e, Z0f, Z0g, Z0h, Z0i, Z0j, Z0k, Z0l, Z0m, Z0n, Z0o, Z0p, Z0q, Z0r, Z0s, Z0t, Z0u, Z0v, Z0w, Z0x, Z0y, Z0z, Z10, Z11, Z12, Z13, Z14, Z15, Z16, Z17, Z18, Z19, ↓reduceIte, Nat.reduceEqDiff, Z1a, Z1b, Z1c, Z1d, Z1e, Z1f, Z1g, Z1h, Z1i, Z1j, Z1k, Z1l, Z1m, Z1n, Z1o, Z1p, Z1q, Z1r, Z1s, Z1t, Z1u, Z1v, Z1w, Z1x, Z1y, Z1z, Z20, Z21, Z22, Z23, Z24, Z25, Z26, Z27, Z28, Z29, Z2a, at1, Nat.zero_add, List.getElem?_cons_succ, List.getElem?_cons_zero]
  refine callT_of (c41 (hk.ext hS ext1) (ext1.lt hS) k0 (by omega)) ?_
  rintro r h2 - ⟨ext2, rfl⟩
  have at2 := (ext2.old h.size (by omega)).trans at1
  have ext12 := ext1.trans ext2
  simp -dsimp -implicitDefEqProofs only [Z00, Z01, Z02, Z03, Z04, Z05, Z06, Z07, Z08, Z09, Z0a, Z0b, Z0c, Z0d, Z0e, Z0f, Z0g, Z0h, Z0i, Z0j, Z0k, Z0l, Z0m, Z0n, Z0o, Z0p, Z0q, Z0r, Z0s, Z0t, Z0u, Z0v, Z0w, Z0x, Z0y, Z0z, Z10, Z11, Z12, Z13, Z14, Z15, Z16, Z17, Z18, Z19, ↓reduceIte, Nat.reduceEqDiff, Z1a, Z1b, Z1c, Z1d, Z1e, Z1f, Z1g, Z1h, Z1i, Z1j, Z1k, Z1l, Z1m, Z1n, Z1o, Z1p, Z1q, Z1r, Z1s, Z1t, Z1u, Z1v, Z1w, Z1x, Z1y, Z1z, Z20, Z21, Z22, Z23, Z24, Z25, Z26, Z27, Z28, Z29, Z2a]
  refine ifW_f (by simp; omega) ?_
  simp -dsimp -implicitDefEqProofs only [Z00, Z01, Z02, Z03, Z04, Z05, Z06, Z07, Z08, Z09, Z0a, Z0b, Z0c, Z0d, Z0e, Z0f, Z0g, Z0h, Z0i, Z0j, Z0k, Z0l, Z0m, Z0n, Z0o, Z0p, Z0q, Z0r, Z0s, Z0t, Z0u, Z0v, Z0w, Z0x, Z0y, Z0z, Z10, Z11, Z12, Z13, Z14, Z15, Z16, Z17, Z18, Z19, ↓reduceIte, Nat.reduceEqDiff, Z1a, Z1b, Z1c, Z1d, Z1e, Z1f, Z1g, Z1h, Z1i, Z1j, Z1k, Z1l, Z1m, Z1n, Z1o, Z1p, Z1q, Z1r, Z1s, Z1t, Z1u, Z1v, Z1w, Z1x, Z1y, Z1z, Z20, Z21, Z22, Z23, Z24, Z25, Z26, Z27, Z28, Z29, Z2a, at2, Nat.zero_add, List.getElem?_cons_succ, List.getElem?_cons_zero]
  refine callT_of (c42 kd h2 S vl _ (hd.ext hS ext12) (ext12.lt hS) (by omega) (by omega)) ?_
  rintro r h3 - ⟨ext3, rfl⟩
  simp -dsimp -implicitDefEqProofs only [Z00, Z01, Z02, Z03, Z04, Z05, Z06, Z07, Z08, Z09, Z0a, Z0b, Z0c, Z0d, Z0e, Z0f, Z0g, Z0h, Z0i, Z0j, Z0k, Z0l, Z0m, Z0n, Z0o, Z0p, Z0q, Z0r, Z0s, Z0t, Z0u, Z0v, Z0w, Z0x, Z0y, Z0z, Z10, Z11, Z12, Z13, Z14, Z15, Z16, Z17, Z18, Z19, ↓reduceIte, Nat.reduceEqDiff, Z1a, Z1b, Z1c, Z1d, Z1e, Z1f, Z1g, Z1h, Z1i, Z1j, Z1k, Z1l, Z1m, Z1n, Z1o, Z1p, Z1q, Z1r, Z1s, Z1t, Z1u, Z1v, Z1w, Z1x, Z1y, Z1z, Z20, Z21, Z22, Z23, Z24, Z25, Z26, Z27, Z28, Z29, Z2a]
  refine ifW_f (by simp; omega) ?_
  simp -dsimp -implicitDefEqProofs only [Z00, Z01, Z02, Z03, Z04, Z05, Z06, Z07, Z08, Z09, Z0a, Z0b, Z0c, Z0d, Z0e, Z0f, Z0g, Z0h, Z0i, Z0j, Z0k, Z0l, Z0m, Z0n, Z0o, Z0p, Z0q, Z0r, Z0s, Z0t, Z0u, Z0v, Z0w, Z0x, Z0y, Z0z, Z10, Z11, Z12, Z13, Z14, Z15, Z16, Z17, Z18, Z19, ↓reduceIte, Nat.reduceEqDiff, Z1a, Z1b, Z1c, Z1d, Z1e, Z1f, Z1g, Z1h, Z1i, Z1j, Z1k, Z1l, Z1m, Z1n, Z1o, Z1p, Z1q, Z1r, Z1s, Z1t, Z1u, Z1v, Z1w, Z1x, Z1y, Z1z, Z20, Z21, Z22, Z23, Z24, Z25, Z26, Z27, Z28, Z29, Z2a, retK, resC, resV]
  refine ⟨ext12.trans ext3, ?_⟩
  simp only [cntO]; congr 1; push_cast; omega

mutual
theorem sm_of_sz : ∀ (o : OT) (l : Int), 0 ≤ l → 0 ≤ szO o l → l ≤ 1048576 → smO o ∧ (cntO o : Int) ≤ 4 * (l - szO o l)
  | .mk a b t ks kd, l, h0, h, hl => by
    simp only [szO] at h ⊢
    split at h
    · omega
    · rename_i h1
      rw [if_neg h1]
      by_cases h3 : l - t.size - ks.length < 0
      · rw [if_pos h3, if_pos (by omega)] at h
        omega
      · rw [if_neg h3] at h ⊢
        by_cases h2 : szS ks (l - t.size - ks.length) < 0
        · rw [if_pos h2] at h
          omega
        · rw [if_neg h2] at h ⊢
          have hle := (szS_le ks (l - t.size - ks.length) (by omega)).1
          split at h
          · omega
          · rename_i h4
            rw [if_neg h4]
            have := sm_of_szL kd (szS ks (l - t.size - ks.length) - kd.length) (by omega) h (by omega)
            simp only [smO, cntO]
            refine ⟨⟨by omega, by omega, this.1⟩, ?_⟩
            have := this.2
            push_cast
            omega
theorem sm_of_szL : ∀ (os : List OT) (l : Int), 0 ≤ l → 0 ≤ szL os l → l ≤ 1048576 → smL os ∧ (cntL os : Int) ≤ 4 * os.length + 4 * (l - szL os l)
  | [], l, h0, h, hl => by simp [smL, cntL, szL]
  | o :: r, l, h0, h, hl => by
    simp only [szL] at h ⊢
    split at h
    · omega
    · rename_i h1
      rw [if_neg h1]
      have hle := (szO_le o l h0).1
      have q1 := sm_of_sz o l h0 (by omega) hl
      have q2 := sm_of_szL r (szO o l) (by omega) h (by omega)
      simp only [smL, cntL]
      refine ⟨⟨q1.1, q2.1⟩, ?_⟩
      have e : cntE o = 3 + cntO o := by cases o; simp only [cntE, cntO]; omega
      have := q1.2
      have := q2.2
      rw [e]
      push_cast
      simp only [List.length_cons]
      push_cast
      omega
end

end Go.Proofs.Ytdfmdclfnhgjiaa.Can
