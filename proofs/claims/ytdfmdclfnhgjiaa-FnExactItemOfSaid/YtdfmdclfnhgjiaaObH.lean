/- Objects of the documents: what stands under a key.
   Conditions: those that each law names. -/
import Derived.Test.YtdfmdclfnhgjiaaObG
set_option linter.unusedVariables false
set_option linter.unusedSimpArgs false
namespace Go.Proofs.Ytdfmdclfnhgjiaa.Can
open Go

def zeroT : OT := .mk 0 0 ⟨#[]⟩ [] []
def kidsOf : OT → List OT
  | .mk _ _ _ _ kd => kd
def entO (o : OT) (key : ByteArray) : OT × Bool := if atO o key < 0 then (zeroT, false) else ((kidsOf o).getD (atO o key).toNat zeroT, true)

theorem own_zero (h : CH) : Own h (encO zeroT) [.int .i64 0, .int .i64 0, .string ⟨#[]⟩, .slice none 0 0, .slice none 0 0] [] := by
  have e1 : Own h (encK []) [.slice none 0 0] [] := by simp [encK, Own]
  have e2 : Own h (.arr 5 (encL [])) [.slice none 0 0] [] := by simp [encL, Own]
  exact own_obj (a := 0) (b := 0) (t := ⟨#[]⟩) (ks := []) (kd := []) e1 e2 (by simp)

theorem atO_range (a b : Int) (t : ByteArray) (ks : List ByteArray) (kd : List OT) (key : ByteArray) : atO (.mk a b t ks kd) key = -1 ∨ ∃ j : Nat, atO (.mk a b t ks kd) key = j ∧ j < kd.length := by
  simp only [atO]
  split
  · exact .inl rfl
  · split
    · exact .inl rfl
    · rename_i h1 h2
      rcases ixFrom_range ks key 0 with e | ⟨j, e, _, h3⟩
      · exact .inl e
      · exact .inr ⟨j, e, by omega⟩

def EntPost (o : OT) (key : ByteArray) (h : CH) (r : Value) (h' : CH) : Prop := Ext h h' ∧ ∃ cs' F, r = .tuple #[.agg cs'.toArray, .bool (entO o key).2] ∧ Own h' (encO (entO o key).1) cs' F ∧ Fresh h h' F

theorem c8 {h : CH} {S : Nat → Prop} {cs : List Value} {o : OT} {key : ByteArray} (hs : Rd h S (encO o) cs) (hS : ∀ n, S n → n < h.size) (hz : smO o) :
    callW Try.prog 8 [.agg cs.toArray, .string key] h (EntPost o key h) := by
  refine callW_of (wf _) Try.func8 m8_ok (by simp [m8]) ?_
  obtain ⟨a, b, t, ks, kd⟩ := o
  obtain ⟨vk, vl, rfl, hk, hd⟩ := hs.obj
  have hz0 := hz
  simp only [smO] at hz
  obtain ⟨z2, z4, z5⟩ := hz
  simp -dsimp -implicitDefEqProofs only [Z00, Z01, Z02, Z03, Z04, Z05, Z06, Z07, Z08, Z09, Z0a, Z0b, Z0c, Z0d, Z0e, Z0f, Z0g, Z0h, Z0i, Z0j, Z0k, Z0l, Z0m, Z0n, Z0o, Z0p, Z0q, Z0r, Z0s, Z0t, Z0u, Z0v, Z0w, Z0x, Z0y, Z0z, Z10, Z11, Z12, Z13, Z14, Z15, Z16, Z17, Z18, Z19, ↓reduceIte, Nat.reduceEqDiff, Z1a, Z1b, Z1c, Z1d, Z1e, Z1f, Z1g, Z1h, Z1i, Z1j, Z1k, Z1l, Z1m, Z1n, Z1o, Z1p, Z1q, Z1r, Z1s, Z1t, Z1u, Z1v, Z1w, Z1x, Z1y, Z1z, Z20, Z21, Z22, Z23, Z24, Z25, Z26, Z27, Z28, Z29, Z2a, m8]
  rw [s_box hs.ones]
  simp -dsimp -implicitDefEqProofs only [Z00, Z01, Z02, Z03, Z04, Z05, Z06, Z07, Z08, Z09, Z0a, Z0b, Z0c, Z0d, Z0e, Z0f, Z0g, Z0h, Z0i, Z0j, Z0k, Z0l, Z0m, Z0n, Z0o, Z0p, Z0q, Z0r, Z0s, Z0t, Z0u, Z0v, Z0w, Z0x, Z0y, Z0z, Z10, Z11, Z12, Z13, Z14, Z15, Z16, Z17, Z18, Z19, ↓reduceIte, Nat.reduceEqDiff, Z1a, Z1b, Z1c, Z1d, Z1e, Z1f, Z1g, Z1h, Z1i, Z1j, Z1k, Z1l, Z1m, Z1n, Z1o, Z1p, Z1q, Z1r, Z1s, Z1t, Z1u, Z1v, Z1w, Z1x, Z1y, Z1z, Z20, Z21, Z22, Z23, Z24, Z25, Z26, Z27, Z28, Z29, Z2a]
  have hh : ∃ h2, h2 = (h.push (.cells [Value.int .i64 a, .int .i64 b, .string t, vk, vl] 5 false true)).push (.cells [Value.int .i64 0, .int .i64 0, .string ⟨#[]⟩, .slice none 0 0, .slice none 0 0] 5 false true) := ⟨_, rfl⟩
  obtain ⟨h2, hh⟩ := hh
  have ext2 : Ext h h2 := by rw [hh]; exact (Ext.push _ _).trans (Ext.push _ _)
  have sz2 : h2.size = h.size + 2 := by rw [hh]; rfl
  have at1 : h2.at_ h.size = .cells [Value.int .i64 a, .int .i64 b, .string t, vk, vl] 5 false true := by
    rw [hh, push_old (by simp only [push_size]; omega), push_new]
  have at2 : h2.at_ (h.size + 1) = .cells [Value.int .i64 0, .int .i64 0, .string ⟨#[]⟩, .slice none 0 0, .slice none 0 0] 5 false true := by
    rw [hh]; exact push_new
  rw [← hh]
  clear hh
  simp -dsimp -implicitDefEqProofs only [Z00, Z01, Z02, Z03, Z04, Z05, Z06, Z07, Z08, Z09, Z0a, Z0b, Z0c, Z0d, Z0e, Z0f, Z0g, Z0h, Z0i, Z0j, Z0k, Z0l, Z0m, Z0n, Z0o, Z0p, Z0q, Z0r, Z0s, Z0t, Z0u, Z0v, Z0w, Z0x, Z0y, Z0z, Z10, Z11, Z12, Z13, Z14, Z15, Z16, Z17, Z18, Z19, ↓reduceIte, Nat.reduceEqDiff, Z1a, Z1b, Z1c, Z1d, Z1e, Z1f, Z1g, Z1h, Z1i, Z1j, Z1k, Z1l, Z1m, Z1n, Z1o, Z1p, Z1q, Z1r, Z1s, Z1t, Z1u, Z1v, Z1w, Z1x, Z1y, Z1z, Z20, Z21, Z22, Z23, Z24, Z25, Z26, Z27, Z28, Z29, Z2a, at1, Nat.zero_add, ldA_cells, List.drop_zero, List.take_succ_cons, List.take_zero, List.length_cons, List.length_nil, Nat.reduceAdd, Nat.reduceLeDiff, Nat.le_refl]
  refine callT_of (c31 (hs.ext hS ext2) (ext2.lt hS) hz0) ?_
  rintro r h3 - ⟨ext3, rfl⟩
  have at1 := (ext3.old _ (by omega)).trans at1
  have at2 := (ext3.old _ (by omega)).trans at2
  have ext23 := ext2.trans ext3
  have s3 := ext3.size
  simp -dsimp -implicitDefEqProofs only [Z00, Z01, Z02, Z03, Z04, Z05, Z06, Z07, Z08, Z09, Z0a, Z0b, Z0c, Z0d, Z0e, Z0f, Z0g, Z0h, Z0i, Z0j, Z0k, Z0l, Z0m, Z0n, Z0o, Z0p, Z0q, Z0r, Z0s, Z0t, Z0u, Z0v, Z0w, Z0x, Z0y, Z0z, Z10, Z11, Z12, Z13, Z14, Z15, Z16, Z17, Z18, Z19, ↓reduceIte, Nat.reduceEqDiff, Z1a, Z1b, Z1c, Z1d, Z1e, Z1f, Z1g, Z1h, Z1i, Z1j, Z1k, Z1l, Z1m, Z1n, Z1o, Z1p, Z1q, Z1r, Z1s, Z1t, Z1u, Z1v, Z1w, Z1x, Z1y, Z1z, Z20, Z21, Z22, Z23, Z24, Z25, Z26, Z27, Z28, Z29, Z2a]
  refine ifW_intro (fun hc => ?_) (fun hc => ?_)
  · simp only [decide_eq_true_eq] at hc
    simp -dsimp -implicitDefEqProofs only [Z00, Z01, Z02, Z03, Z04, Z05, Z06, Z07, Z08, Z09, Z0a, Z0b, Z0c, Z0d, Z0e, Z0f, Z0g, Z0h, Z0i, Z0j, Z0k, Z0l, Z0m, Z0n, Z0o, Z0p, Z0q, Z0r, Z0s, Z0t, Z0u, Z0v, Z0w, Z0x, Z0y, Z0z, Z10, Z11, Z12, Z13, Z14, Z15, Z16, Z17, Z18, Z19, ↓reduceIte, Nat.reduceEqDiff, Z1a, Z1b, Z1c, Z1d, Z1e, Z1f, Z1g, Z1h, Z1i, Z1j, Z1k, Z1l, Z1m, Z1n, Z1o, Z1p, Z1q, Z1r, Z1s, Z1t, Z1u, Z1v, Z1w, Z1x, Z1y, Z1z, Z20, Z21, Z22, Z23, Z24, Z25, Z26, Z27, Z28, Z29, Z2a]
    rw [s_bld (c := [.int .i64 0, .int .i64 0, .string ⟨#[]⟩, .slice none 0 0, .slice none 0 0]) rfl rfl]
    simp -dsimp -implicitDefEqProofs only [Z00, Z01, Z02, Z03, Z04, Z05, Z06, Z07, Z08, Z09, Z0a, Z0b, Z0c, Z0d, Z0e, Z0f, Z0g, Z0h, Z0i, Z0j, Z0k, Z0l, Z0m, Z0n, Z0o, Z0p, Z0q, Z0r, Z0s, Z0t, Z0u, Z0v, Z0w, Z0x, Z0y, Z0z, Z10, Z11, Z12, Z13, Z14, Z15, Z16, Z17, Z18, Z19, ↓reduceIte, Nat.reduceEqDiff, Z1a, Z1b, Z1c, Z1d, Z1e, Z1f, Z1g, Z1h, Z1i, Z1j, Z1k, Z1l, Z1m, Z1n, Z1o, Z1p, Z1q, Z1r, Z1s, Z1t, Z1u, Z1v, Z1w, Z1x, Z1y, Z1z, Z20, Z21, Z22, Z23, Z24, Z25, Z26, Z27, Z28, Z29, Z2a, at2, st_all (m := 5) (x := [.int .i64 0, .int .i64 0, .string ⟨#[]⟩, .slice none 0 0, .slice none 0 0]) (c := [.int .i64 0, .int .i64 0, .string ⟨#[]⟩, .slice none 0 0, .slice none 0 0]) rfl rfl rfl, retK, resC, resV, ldA_cells, List.drop_zero, List.take_succ_cons, List.take_zero, List.length_cons, List.length_nil, Nat.reduceAdd, Nat.reduceLeDiff, Nat.le_refl, Nat.zero_add]
    refine ⟨ext23.set (by omega), [.int .i64 0, .int .i64 0, .string ⟨#[]⟩, .slice none 0 0, .slice none 0 0], [], ?_, ?_, ?_⟩
    · simp only [entO, if_pos hc]
    · simp only [entO, if_pos hc]; exact own_zero _
    · intro n hn; simp at hn
  · simp only [decide_eq_false_iff_not] at hc
    rcases atO_range a b t ks kd key with e | ⟨j, e, hj⟩
    · omega
    have hent : entO (.mk a b t ks kd) key = (kd[j], true) := by
      simp only [entO, if_neg hc, e, Int.toNat_natCast, kidsOf]
      simp [hj]
    have hjc : (j : Int) < kd.length := by omega
    obtain ⟨al, capl, rfl, hel⟩ := hd.slice
    simp only [encL_len] at hel at1 ⊢
    obtain ⟨n, o, cc, opn, rw, rfl, hSn, hat, hlen, hcs⟩ := hel j hj
    have hcell := hcs j (encO kd[j]) (by simp [encL_eq, hj])
    have hat3 := (ext23.old n (hS n hSn)).trans hat
    have room : o + j * 5 + 5 ≤ cc.length := by omega
    simp -dsimp -implicitDefEqProofs only [Z00, Z01, Z02, Z03, Z04, Z05, Z06, Z07, Z08, Z09, Z0a, Z0b, Z0c, Z0d, Z0e, Z0f, Z0g, Z0h, Z0i, Z0j, Z0k, Z0l, Z0m, Z0n, Z0o, Z0p, Z0q, Z0r, Z0s, Z0t, Z0u, Z0v, Z0w, Z0x, Z0y, Z0z, Z10, Z11, Z12, Z13, Z14, Z15, Z16, Z17, Z18, Z19, ↓reduceIte, Nat.reduceEqDiff, Z1a, Z1b, Z1c, Z1d, Z1e, Z1f, Z1g, Z1h, Z1i, Z1j, Z1k, Z1l, Z1m, Z1n, Z1o, Z1p, Z1q, Z1r, Z1s, Z1t, Z1u, Z1v, Z1w, Z1x, Z1y, Z1z, Z20, Z21, Z22, Z23, Z24, Z25, Z26, Z27, Z28, Z29, Z2a, e, at1, Nat.zero_add, List.getElem?_cons_succ, List.getElem?_cons_zero, s_iaddr (Int.natCast_nonneg j) hjc, s_loadA hat3 room, Int.toNat_natCast]
    refine callT_of (c32 kd[j] h3 S _ (hcell.ext hS ext23) (ext23.lt hS) (smL_mem z5 _ (List.getElem_mem hj))) ?_
    rintro r h4 - ⟨ext4, cs', G, rfl, hown, hG⟩
    have at2 := (ext4.old _ (by omega)).trans at2
    have hl5 : cs'.length = 5 := hown.len.trans (wid_obj _)
    simp -dsimp -implicitDefEqProofs only [Z00, Z01, Z02, Z03, Z04, Z05, Z06, Z07, Z08, Z09, Z0a, Z0b, Z0c, Z0d, Z0e, Z0f, Z0g, Z0h, Z0i, Z0j, Z0k, Z0l, Z0m, Z0n, Z0o, Z0p, Z0q, Z0r, Z0s, Z0t, Z0u, Z0v, Z0w, Z0x, Z0y, Z0z, Z10, Z11, Z12, Z13, Z14, Z15, Z16, Z17, Z18, Z19, ↓reduceIte, Nat.reduceEqDiff, Z1a, Z1b, Z1c, Z1d, Z1e, Z1f, Z1g, Z1h, Z1i, Z1j, Z1k, Z1l, Z1m, Z1n, Z1o, Z1p, Z1q, Z1r, Z1s, Z1t, Z1u, Z1v, Z1w, Z1x, Z1y, Z1z, Z20, Z21, Z22, Z23, Z24, Z25, Z26, Z27, Z28, Z29, Z2a, at2, st_all (m := 5) (c := [.int .i64 0, .int .i64 0, .string ⟨#[]⟩, .slice none 0 0, .slice none 0 0]) hown.rd.ones hl5 rfl, retK, resC, resV, ldA_cells, hl5, List.drop_zero, List.take_of_length_le (Nat.le_of_eq hl5), Nat.le_refl, Nat.zero_add]
    refine ⟨(ext23.trans ext4).set (by omega), cs', G, ?_, ?_, ?_⟩
    · rw [hent]
    · rw [hent]
      exact hown.keep fun n hn => set_other (by have := (hG n hn).1; omega)
    · exact fun n hn => by have := hG n hn; simp only [set_size]; omega

theorem c10 {h : CH} {S : Nat → Prop} {cs : List Value} {o : OT} {key : ByteArray} (hs : Rd h S (encO o) cs) (hS : ∀ n, S n → n < h.size) (hz : smO o) :
    callW Try.prog 10 [.agg cs.toArray, .string key] h (EntPost o key h) := by
  refine callW_of (wf _) Try.func10 m10_ok (by simp [m10]) ?_
  obtain ⟨a, b, t, ks, kd⟩ := o
  obtain ⟨vk, vl, rfl, hk, hd⟩ := hs.obj
  have hz0 := hz
  simp only [smO] at hz
  obtain ⟨z2, z4, z5⟩ := hz
  simp -dsimp -implicitDefEqProofs only [Z00, Z01, Z02, Z03, Z04, Z05, Z06, Z07, Z08, Z09, Z0a, Z0b, Z0c, Z0d, Z0e, Z0f, Z0g, Z0h, Z0i, Z0j, Z0k, Z0l, Z0m, Z0n, Z0o, Z0p, Z0q, Z0r, Z0s, Z0t, Z0u, Z0v, Z0w, Z0x, Z0y, Z0z, Z10, Z11, Z12, Z13, Z14, Z15, Z16, Z17, Z18, Z19, ↓reduceIte, Nat.reduceEqDiff, Z1a, Z1b, Z1c, Z1d, Z1e, Z1f, Z1g, Z1h, Z1i, Z1j, Z1k, Z1l, Z1m, Z1n, Z1o, Z1p, Z1q, Z1r, Z1s, Z1t, Z1u, Z1v, Z1w, Z1x, Z1y, Z1z, Z20, Z21, Z22, Z23, Z24, Z25, Z26, Z27, Z28, Z29, Z2a, m10]
  rw [s_box hs.ones]
  simp -dsimp -implicitDefEqProofs only [Z00, Z01, Z02, Z03, Z04, Z05, Z06, Z07, Z08, Z09, Z0a, Z0b, Z0c, Z0d, Z0e, Z0f, Z0g, Z0h, Z0i, Z0j, Z0k, Z0l, Z0m, Z0n, Z0o, Z0p, Z0q, Z0r, Z0s, Z0t, Z0u, Z0v, Z0w, Z0x, Z0y, Z0z, Z10, Z11, Z12, Z13, Z14, Z15, Z16, Z17, Z18, Z19, ↓reduceIte, Nat.reduceEqDiff, Z1a, Z1b, Z1c, Z1d, Z1e, Z1f, Z1g, Z1h, Z1i, Z1j, Z1k, Z1l, Z1m, Z1n, Z1o, Z1p, Z1q, Z1r, Z1s, Z1t, Z1u, Z1v, Z1w, Z1x, Z1y, Z1z, Z20, Z21, Z22, Z23, Z24, Z25, Z26, Z27, Z28, Z29, Z2a]
  have hh : ∃ h2, h2 = (h.push (.cells [Value.int .i64 a, .int .i64 b, .string t, vk, vl] 5 false true)).push (.cells [Value.int .i64 0, .int .i64 0, .string ⟨#[]⟩, .slice none 0 0, .slice none 0 0] 5 false true) := ⟨_, rfl⟩
  obtain ⟨h2, hh⟩ := hh
  have ext2 : Ext h h2 := by rw [hh]; exact (Ext.push _ _).trans (Ext.push _ _)
  have sz2 : h2.size = h.size + 2 := by rw [hh]; rfl
  have at1 : h2.at_ h.size = .cells [Value.int .i64 a, .int .i64 b, .string t, vk, vl] 5 false true := by
    rw [hh, push_old (by simp only [push_size]; omega), push_new]
  have at2 : h2.at_ (h.size + 1) = .cells [Value.int .i64 0, .int .i64 0, .string ⟨#[]⟩, .slice none 0 0, .slice none 0 0] 5 false true := by
    rw [hh]; exact push_new
  rw [← hh]
  clear hh
  simp -dsimp -implicitDefEqProofs only [Z00, Z01, Z02, Z03, Z04, Z05, Z06, Z07, Z08, Z09, Z0a, Z0b, Z0c, Z0d, Z0e, Z0f, Z0g, Z0h, Z0i, Z0j, Z0k, Z0l, Z0m, Z0n, Z0o, Z0p, Z0q, Z0r, Z0s, Z0t, Z0u, Z0v, Z0w, Z0x, Z0y, Z0z, Z10, Z11, Z12, Z13, Z14, Z15, Z16, Z17, Z18, Z19, ↓reduceIte, Nat.reduceEqDiff, Z1a, Z1b, Z1c, Z1d, Z1e, Z1f, Z1g, Z1h, Z1i, Z1j, Z1k, Z1l, Z1m, Z1n, Z1o, Z1p, Z1q, Z1r, Z1s, Z1t, Z1u, Z1v, Z1w, Z1x, Z1y, Z1z, Z20, Z21, Z22, Z23, Z24, Z25, Z26, Z27, Z28, Z29, Z2a, at1, Nat.zero_add, List.getElem?_cons_succ, List.getElem?_cons_zero]
  refine callT_of (c35 (hk.ext hS ext2) z2) ?_
  rintro r h3 - ⟨rfl, rfl⟩
  obtain ⟨ak, capk, rfl, helk⟩ := hk.slice
  obtain ⟨al, capl, rfl, hel⟩ := hd.slice
  simp only [encL_len, List.length_map] at hel helk at1 ⊢
  simp -dsimp -implicitDefEqProofs only [Z00, Z01, Z02, Z03, Z04, Z05, Z06, Z07, Z08, Z09, Z0a, Z0b, Z0c, Z0d, Z0e, Z0f, Z0g, Z0h, Z0i, Z0j, Z0k, Z0l, Z0m, Z0n, Z0o, Z0p, Z0q, Z0r, Z0s, Z0t, Z0u, Z0v, Z0w, Z0x, Z0y, Z0z, Z10, Z11, Z12, Z13, Z14, Z15, Z16, Z17, Z18, Z19, ↓reduceIte, Nat.reduceEqDiff, Z1a, Z1b, Z1c, Z1d, Z1e, Z1f, Z1g, Z1h, Z1i, Z1j, Z1k, Z1l, Z1m, Z1n, Z1o, Z1p, Z1q, Z1r, Z1s, Z1t, Z1u, Z1v, Z1w, Z1x, Z1y, Z1z, Z20, Z21, Z22, Z23, Z24, Z25, Z26, Z27, Z28, Z29, Z2a, at1, Nat.zero_add, List.getElem?_cons_succ, List.getElem?_cons_zero]
  refine ifW_intro (fun hc => ?_) (fun hc => ?_)
  · have hneg : atO (.mk a b t ks kd) key < 0 := by
      simp only [bne_iff_ne] at hc
      simp only [atO, if_pos hc]; omega
    simp -dsimp -implicitDefEqProofs only [Z00, Z01, Z02, Z03, Z04, Z05, Z06, Z07, Z08, Z09, Z0a, Z0b, Z0c, Z0d, Z0e, Z0f, Z0g, Z0h, Z0i, Z0j, Z0k, Z0l, Z0m, Z0n, Z0o, Z0p, Z0q, Z0r, Z0s, Z0t, Z0u, Z0v, Z0w, Z0x, Z0y, Z0z, Z10, Z11, Z12, Z13, Z14, Z15, Z16, Z17, Z18, Z19, ↓reduceIte, Nat.reduceEqDiff, Z1a, Z1b, Z1c, Z1d, Z1e, Z1f, Z1g, Z1h, Z1i, Z1j, Z1k, Z1l, Z1m, Z1n, Z1o, Z1p, Z1q, Z1r, Z1s, Z1t, Z1u, Z1v, Z1w, Z1x, Z1y, Z1z, Z20, Z21, Z22, Z23, Z24, Z25, Z26, Z27, Z28, Z29, Z2a, hc]
    rw [s_bld (c := [.int .i64 0, .int .i64 0, .string ⟨#[]⟩, .slice none 0 0, .slice none 0 0]) rfl rfl]
    simp -dsimp -implicitDefEqProofs only [Z00, Z01, Z02, Z03, Z04, Z05, Z06, Z07, Z08, Z09, Z0a, Z0b, Z0c, Z0d, Z0e, Z0f, Z0g, Z0h, Z0i, Z0j, Z0k, Z0l, Z0m, Z0n, Z0o, Z0p, Z0q, Z0r, Z0s, Z0t, Z0u, Z0v, Z0w, Z0x, Z0y, Z0z, Z10, Z11, Z12, Z13, Z14, Z15, Z16, Z17, Z18, Z19, ↓reduceIte, Nat.reduceEqDiff, Z1a, Z1b, Z1c, Z1d, Z1e, Z1f, Z1g, Z1h, Z1i, Z1j, Z1k, Z1l, Z1m, Z1n, Z1o, Z1p, Z1q, Z1r, Z1s, Z1t, Z1u, Z1v, Z1w, Z1x, Z1y, Z1z, Z20, Z21, Z22, Z23, Z24, Z25, Z26, Z27, Z28, Z29, Z2a, at2, st_all (m := 5) (x := [.int .i64 0, .int .i64 0, .string ⟨#[]⟩, .slice none 0 0, .slice none 0 0]) (c := [.int .i64 0, .int .i64 0, .string ⟨#[]⟩, .slice none 0 0, .slice none 0 0]) rfl rfl rfl, retK, resC, resV, ldA_cells, List.drop_zero, List.take_succ_cons, List.take_zero, List.length_cons, List.length_nil, Nat.reduceAdd, Nat.reduceLeDiff, Nat.le_refl, Nat.zero_add]
    refine ⟨ext2.set (by omega), [.int .i64 0, .int .i64 0, .string ⟨#[]⟩, .slice none 0 0, .slice none 0 0], [], ?_, ?_, ?_⟩
    · simp only [entO, if_pos hneg]
    · simp only [entO, if_pos hneg]; exact own_zero _
    · intro n hn; simp at hn
  simp -dsimp -implicitDefEqProofs only [Z00, Z01, Z02, Z03, Z04, Z05, Z06, Z07, Z08, Z09, Z0a, Z0b, Z0c, Z0d, Z0e, Z0f, Z0g, Z0h, Z0i, Z0j, Z0k, Z0l, Z0m, Z0n, Z0o, Z0p, Z0q, Z0r, Z0s, Z0t, Z0u, Z0v, Z0w, Z0x, Z0y, Z0z, Z10, Z11, Z12, Z13, Z14, Z15, Z16, Z17, Z18, Z19, ↓reduceIte, Nat.reduceEqDiff, Z1a, Z1b, Z1c, Z1d, Z1e, Z1f, Z1g, Z1h, Z1i, Z1j, Z1k, Z1l, Z1m, Z1n, Z1o, Z1p, Z1q, Z1r, Z1s, Z1t, Z1u, Z1v, Z1w, Z1x, Z1y, Z1z, Z20, Z21, Z22, Z23, Z24, Z25, Z26, Z27, Z28, Z29, Z2a, hc, at1, Nat.zero_add, List.getElem?_cons_succ, List.getElem?_cons_zero, Bool.false_eq_true]
  simp only [bne_eq_false_iff_eq] at hc
  subst hc
  refine ifW_intro (fun hc2 => ?_) (fun hc2 => ?_)
  · have hneg : atO (.mk 8 b t ks kd) key < 0 := by
      simp only [bne_iff_ne, ne_eq] at hc2
      simp only [atO, ne_eq, not_true, if_false]
      rw [if_pos (by omega)]; omega
    simp -dsimp -implicitDefEqProofs only [Z00, Z01, Z02, Z03, Z04, Z05, Z06, Z07, Z08, Z09, Z0a, Z0b, Z0c, Z0d, Z0e, Z0f, Z0g, Z0h, Z0i, Z0j, Z0k, Z0l, Z0m, Z0n, Z0o, Z0p, Z0q, Z0r, Z0s, Z0t, Z0u, Z0v, Z0w, Z0x, Z0y, Z0z, Z10, Z11, Z12, Z13, Z14, Z15, Z16, Z17, Z18, Z19, ↓reduceIte, Nat.reduceEqDiff, Z1a, Z1b, Z1c, Z1d, Z1e, Z1f, Z1g, Z1h, Z1i, Z1j, Z1k, Z1l, Z1m, Z1n, Z1o, Z1p, Z1q, Z1r, Z1s, Z1t, Z1u, Z1v, Z1w, Z1x, Z1y, Z1z, Z20, Z21, Z22, Z23, Z24, Z25, Z26, Z27, Z28, Z29, Z2a, hc2]
    rw [s_bld (c := [.int .i64 0, .int .i64 0, .string ⟨#[]⟩, .slice none 0 0, .slice none 0 0]) rfl rfl]
    simp -dsimp -implicitDefEqProofs only [Z00, Z01, Z02, Z03, Z04, Z05, Z06, Z07, Z08, Z09, Z0a, Z0b, Z0c, Z0d, Z0e, Z0f, Z0g, Z0h, Z0i, Z0j, Z0k, Z0l, Z0m, Z0n, Z0o, Z0p, Z0q, Z0r, Z0s, Z0t, Z0u, Z0v, Z0w, Z0x, Z0y, Z0z, Z10, Z11, Z12, Z13, Z14, Z15, Z16, Z17, Z18, Z19, ↓reduceIte, Nat.reduceEqDiff, Z1a, Z1b, Z1c, Z1d, Z1e, Z1f, Z1g, Z1h, Z1i, Z1j, Z1k, Z1l, Z1m, Z1n, Z1o, Z1p, Z1q, Z1r, Z1s, Z1t, Z1u, Z1v, Z1w, Z1x, Z1y, Z1z, Z20, Z21, Z22, Z23, Z24, Z25, Z26, Z27, Z28, Z29, Z2a, at2, st_all (m := 5) (x := [.int .i64 0, .int .i64 0, .string ⟨#[]⟩, .slice none 0 0, .slice none 0 0]) (c := [.int .i64 0, .int .i64 0, .string ⟨#[]⟩, .slice none 0 0, .slice none 0 0]) rfl rfl rfl, retK, resC, resV, ldA_cells, List.drop_zero, List.take_succ_cons, List.take_zero, List.length_cons, List.length_nil, Nat.reduceAdd, Nat.reduceLeDiff, Nat.le_refl, Nat.zero_add]
    refine ⟨ext2.set (by omega), [.int .i64 0, .int .i64 0, .string ⟨#[]⟩, .slice none 0 0, .slice none 0 0], [], ?_, ?_, ?_⟩
    · simp only [entO, if_pos hneg]
    · simp only [entO, if_pos hneg]; exact own_zero _
    · intro n hn; simp at hn
  simp -dsimp -implicitDefEqProofs only [Z00, Z01, Z02, Z03, Z04, Z05, Z06, Z07, Z08, Z09, Z0a, Z0b, Z0c, Z0d, Z0e, Z0f, Z0g, Z0h, Z0i, Z0j, Z0k, Z0l, Z0m, Z0n, Z0o, Z0p, Z0q, Z0r, Z0s, Z0t, Z0u, Z0v, Z0w, Z0x, Z0y, Z0z, Z10, Z11, Z12, Z13, Z14, Z15, Z16, Z17, Z18, Z19, ↓reduceIte, Nat.reduceEqDiff, Z1a, Z1b, Z1c, Z1d, Z1e, Z1f, Z1g, Z1h, Z1i, Z1j, Z1k, Z1l, Z1m, Z1n, Z1o, Z1p, Z1q, Z1r, Z1s, Z1t, Z1u, Z1v, Z1w, Z1x, Z1y, Z1z, Z20, Z21, Z22, Z23, Z24, Z25, Z26, Z27, Z28, Z29, Z2a, hc2, Bool.false_eq_true]
  simp only [bne_eq_false_iff_eq] at hc2
  have hlen2 : ks.length = kd.length := by omega
  have hat : atO (.mk 8 b t ks kd) key = ixFrom ks key 0 := by
    simp only [atO, ne_eq, not_true, if_false, hlen2]
  refine ifW_intro (fun hc => ?_) (fun hc => ?_)
  · have hneg : atO (.mk 8 b t ks kd) key < 0 := by
      simp only [decide_eq_true_eq] at hc
      rw [hat]; exact hc
    simp -dsimp -implicitDefEqProofs only [Z00, Z01, Z02, Z03, Z04, Z05, Z06, Z07, Z08, Z09, Z0a, Z0b, Z0c, Z0d, Z0e, Z0f, Z0g, Z0h, Z0i, Z0j, Z0k, Z0l, Z0m, Z0n, Z0o, Z0p, Z0q, Z0r, Z0s, Z0t, Z0u, Z0v, Z0w, Z0x, Z0y, Z0z, Z10, Z11, Z12, Z13, Z14, Z15, Z16, Z17, Z18, Z19, ↓reduceIte, Nat.reduceEqDiff, Z1a, Z1b, Z1c, Z1d, Z1e, Z1f, Z1g, Z1h, Z1i, Z1j, Z1k, Z1l, Z1m, Z1n, Z1o, Z1p, Z1q, Z1r, Z1s, Z1t, Z1u, Z1v, Z1w, Z1x, Z1y, Z1z, Z20, Z21, Z22, Z23, Z24, Z25, Z26, Z27, Z28, Z29, Z2a]
    rw [s_bld (c := [.int .i64 0, .int .i64 0, .string ⟨#[]⟩, .slice none 0 0, .slice none 0 0]) rfl rfl]
    simp -dsimp -implicitDefEqProofs only [Z00, Z01, Z02, Z03, Z04, Z05, Z06, Z07, Z08, Z09, Z0a, Z0b, Z0c, Z0d, Z0e, Z0f, Z0g, Z0h, Z0i, Z0j, Z0k, Z0l, Z0m, Z0n, Z0o, Z0p, Z0q, Z0r, Z0s, Z0t, Z0u, Z0v, Z0w, Z0x, Z0y, Z0z, Z10, Z11, Z12, Z13, Z14, Z15, Z16, Z17, Z18, Z19, ↓reduceIte, Nat.reduceEqDiff, Z1a, Z1b, Z1c, Z1d, Z1e, Z1f, Z1g, Z1h, Z1i, Z1j, Z1k, Z1l, Z1m, Z1n, Z1o, Z1p, Z1q, Z1r, Z1s, Z1t, Z1u, Z1v, Z1w, Z1x, Z1y, Z1z, Z20, Z21, Z22, Z23, Z24, Z25, Z26, Z27, Z28, Z29, Z2a, at2, st_all (m := 5) (x := [.int .i64 0, .int .i64 0, .string ⟨#[]⟩, .slice none 0 0, .slice none 0 0]) (c := [.int .i64 0, .int .i64 0, .string ⟨#[]⟩, .slice none 0 0, .slice none 0 0]) rfl rfl rfl, retK, resC, resV, ldA_cells, List.drop_zero, List.take_succ_cons, List.take_zero, List.length_cons, List.length_nil, Nat.reduceAdd, Nat.reduceLeDiff, Nat.le_refl, Nat.zero_add]
    refine ⟨ext2.set (by omega), [.int .i64 0, .int .i64 0, .string ⟨#[]⟩, .slice none 0 0, .slice none 0 0], [], ?_, ?_, ?_⟩
    · simp only [entO, if_pos hneg]
    · simp only [entO, if_pos hneg]; exact own_zero _
    · intro n hn; simp at hn
  · simp only [decide_eq_false_iff_not] at hc
    rw [← hat] at hc ⊢
    rcases atO_range 8 b t ks kd key with e | ⟨j, e, hj⟩
    · omega
    have hent : entO (.mk 8 b t ks kd) key = (kd[j], true) := by
      simp only [entO, if_neg hc, e, Int.toNat_natCast, kidsOf]
      simp [hj]
    have hjc : (j : Int) < kd.length := by omega
    obtain ⟨n, o, cc, opn, rw, rfl, hSn, hat, hlen, hcs⟩ := hel j hj
    have hcell := hcs j (encO kd[j]) (by simp [encL_eq, hj])
    have hat3 := (ext2.old n (hS n hSn)).trans hat
    have room : o + j * 5 + 5 ≤ cc.length := by omega
    simp -dsimp -implicitDefEqProofs only [Z00, Z01, Z02, Z03, Z04, Z05, Z06, Z07, Z08, Z09, Z0a, Z0b, Z0c, Z0d, Z0e, Z0f, Z0g, Z0h, Z0i, Z0j, Z0k, Z0l, Z0m, Z0n, Z0o, Z0p, Z0q, Z0r, Z0s, Z0t, Z0u, Z0v, Z0w, Z0x, Z0y, Z0z, Z10, Z11, Z12, Z13, Z14, Z15, Z16, Z17, Z18, Z19, ↓reduceIte, Nat.reduceEqDiff, Z1a, Z1b, Z1c, Z1d, Z1e, Z1f, Z1g, Z1h, Z1i, Z1j, Z1k, Z1l, Z1m, Z1n, Z1o, Z1p, Z1q, Z1r, Z1s, Z1t, Z1u, Z1v, Z1w, Z1x, Z1y, Z1z, Z20, Z21, Z22, Z23, Z24, Z25, Z26, Z27, Z28, Z29, Z2a, e, at1, Nat.zero_add, List.getElem?_cons_succ, List.getElem?_cons_zero, s_iaddr (Int.natCast_nonneg j) hjc, s_loadA hat3 room, Int.toNat_natCast]
    refine callT_of (c36 kd[j] h3 S _ (hcell.ext hS ext2) (ext2.lt hS) (smL_mem z5 _ (List.getElem_mem hj))) ?_
    rintro r h4 - ⟨ext4, cs', G, rfl, hown, hG⟩
    have at2 := (ext4.old _ (by omega)).trans at2
    have hl5 : cs'.length = 5 := hown.len.trans (wid_obj _)
    simp -dsimp -implicitDefEqProofs only [Z00, Z01, Z02, Z03, Z04, Z05, Z06, Z07, Z08, Z09, Z0a, Z0b, Z0c, Z0d, Z0e, Z0f, Z0g, Z0h, Z0i, Z0j, Z0k, Z0l, Z0m, Z0n, Z0o, Z0p, Z0q, Z0r, Z0s, Z0t, Z0u, Z0v, Z0w, Z0x, Z0y, Z0z, Z10, Z11, Z12, Z13, Z14, Z15, Z16, Z17, Z18, Z19, ↓reduceIte, Nat.reduceEqDiff, Z1a, Z1b, Z1c, Z1d, Z1e, Z1f, Z1g, Z1h, Z1i, Z1j, Z1k, Z1l, Z1m, Z1n, Z1o, Z1p, Z1q, Z1r, Z1s, Z1t, Z1u, Z1v, Z1w, Z1x, Z1y, Z1z, Z20, Z21, Z22, Z23, Z24, Z25, Z26, Z27, Z28, Z29, Z2a, at2, st_all (m := 5) (c := [.int .i64 0, .int .i64 0, .string ⟨#[]⟩, .slice none 0 0, .slice none 0 0]) hown.rd.ones hl5 rfl, retK, resC, resV, ldA_cells, hl5, List.drop_zero, List.take_of_length_le (Nat.le_of_eq hl5), Nat.le_refl, Nat.zero_add]
    refine ⟨(ext2.trans ext4).set (by omega), cs', G, ?_, ?_, ?_⟩
    · rw [hent]
    · rw [hent]
      exact hown.keep fun n hn => set_other (by have := (hG n hn).1; omega)
    · exact fun n hn => by have := hG n hn; simp only [set_size]; omega

end Go.Proofs.Ytdfmdclfnhgjiaa.Can
