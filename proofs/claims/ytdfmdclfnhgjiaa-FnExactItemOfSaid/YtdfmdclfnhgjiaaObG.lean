/- Objects of the documents: the program's copy.
   Conditions: those that each law names. -/
import Derived.Test.YtdfmdclfnhgjiaaObF
set_option linter.unusedVariables false
set_option linter.unusedSimpArgs false
namespace Go.Proofs.Ytdfmdclfnhgjiaa.Can
open Go

def C36 (o : OT) : Prop := ∀ (h : CH) (S : Nat → Prop) (cs : List Value), Rd h S (encO o) cs → (∀ n, S n → n < h.size) → smO o →
    callW Try.prog 36 [.agg cs.toArray] h fun r h' => Ext h h' ∧ ∃ cs' F, r = .agg cs'.toArray ∧ Own h' (encO o) cs' F ∧ Fresh h h' F

theorem c36_of {o : OT} (hk : ∀ a b t ks kd, o = .mk a b t ks kd → ∀ o ∈ kd, C36 o) : C36 o := by
  intro h S cs hs hS hz
  obtain ⟨a, b, t, ks, kd⟩ := o
  have ih := hk a b t ks kd rfl
  refine callW_of (wf _) Try.func36 m36_ok (by simp [m36]) ?_
  obtain ⟨vk, vl, rfl, hk, hd⟩ := hs.obj
  simp only [smO] at hz
  obtain ⟨z2, z4, z5⟩ := hz
  simp -dsimp -implicitDefEqProofs only [Z00, Z01, Z02, Z03, Z04, Z05, Z06, Z07, Z08, Z09, Z0a, Z0b, Z0c, Z0d, Z0e, Z0f, Z0g, Z0h, Z0i, Z0j, Z0k, Z0l, Z0m, Z0n, Z0o, Z0p, Z0q, Z0r, Z0s, Z0t, Z0u, Z0v, Z0w, Z0x, Z0y, Z0z, Z10, Z11, Z12, Z13, Z14, Z15, Z16, Z17, Z18, Z19, ↓reduceIte, Nat.reduceEqDiff, Z1a, Z1b, Z1c, Z1d, Z1e, Z1f, Z1g, Z1h, Z1i, Z1j, Z1k, Z1l, Z1m, Z1n, Z1o, Z1p, Z1q, Z1r, Z1s, Z1t, Z1u, Z1v, Z1w, Z1x, Z1y, Z1z, Z20, Z21, Z22, Z23, Z24, Z25, Z26, Z27, Z28, Z29, Z2a, m36]
  rw [s_box hs.ones]
  simp -dsimp -implicitDefEqProofs only [Z00, Z01, Z02, Z03, Z04, Z05, Z06, Z07, Z08, Z09, Z0a, Z0b, Z0c, Z0d, Z0e, Z0f, Z0g, Z0h, Z0i, Z0j, Z0k, Z0l, Z0m, Z0n, Z0o, Z0p, Z0q, Z0r, Z0s, Z0t, Z0u, Z0v, Z0w, Z0x, Z0y, Z0z, Z10, Z11, Z12, Z13, Z14, Z15, Z16, Z17, Z18, Z19, ↓reduceIte, Nat.reduceEqDiff, Z1a, Z1b, Z1c, Z1d, Z1e, Z1f, Z1g, Z1h, Z1i, Z1j, Z1k, Z1l, Z1m, Z1n, Z1o, Z1p, Z1q, Z1r, Z1s, Z1t, Z1u, Z1v, Z1w, Z1x, Z1y, Z1z, Z20, Z21, Z22, Z23, Z24, Z25, Z26, Z27, Z28, Z29, Z2a]
  have hh : ∃ h2, h2 = (h.push (.cells [Value.int .i64 a, .int .i64 b, .string t, vk, vl] 5 false true)).push (.cells [Value.int .i64 0, .int .i64 0, .string ⟨#[]⟩, .slice none 0 0, .slice none 0 0] 5 false true) := ⟨_, rfl⟩
  obtain ⟨h2, hh⟩ := hh
  have ext2 : Ext h h2 := by rw [hh]; exact (Ext.push _ _).trans (Ext.push _ _)
  have sz2 : h2.size = h.size + 2 := by rw [hh]; rfl
  have at1 : h2.at_ h.size = .cells [Value.int .i64 a, .int .i64 b, .string t, vk, vl] 5 false true := by
    rw [hh, push_old (by simp only [push_size]; omega), push_new]
  have at2 : h2.at_ (h.size + 1) = .cells [Value.int .i64 0, .int .i64 0, .string ⟨#[]⟩, .slice none 0 0, .slice none 0 0] 5 false true := by
    rw [hh]; exact push_new
  rw [← hh]
  clear hh
  simp -dsimp -implicitDefEqProofs only [Z00, Z01, Z02, Z03, Z04, Z05, Z06, Z07, Z08, Z09, Z0a, Z0b, Z0c, Z0d, Z0e, Z0f, Z0g, Z0h, Z0i, Z0j, Z0k, Z0l, Z0m, Z0n, Z0o, Z0p, Z0q, Z0r, Z0s, Z0t, Z0u, Z0v, Z0w, Z0x, Z0y, Z0z, Z10, Z11, Z12, Z13, Z14, Z15, Z16, Z17, Z18, Z19, ↓reduceIte, Nat.reduceEqDiff, Z1a, Z1b, Z1c, Z1d, Z1e, Z1f, Z1g, Z1h, Z1i, Z1j, Z1k, Z1l, Z1m, Z1n, Z1o, Z1p, Z1q, Z1r, Z1s, Z1t, Z1u, Z1v, Z1w, Z1x, Z1y, Z1z, Z20, Z21, Z22, Z23, Z24, Z25, Z26, Z27, Z28, Z29, Z2a, at1, Nat.zero_add, List.getElem?_cons_succ, List.getElem?_cons_zero, s_blds0]
  have hh : ∃ h3, h3 = h2.push (.cells [] 1 false true) := ⟨_, rfl⟩
  obtain ⟨h3, hh⟩ := hh
  have ext3 : Ext h h3 := by rw [hh]; exact ext2.trans (Ext.push _ _)
  have sz3 : h3.size = h.size + 3 := by rw [hh, push_size, sz2]
  have at1 : h3.at_ h.size = .cells [Value.int .i64 a, .int .i64 b, .string t, vk, vl] 5 false true := by
    rw [hh, push_old (by omega)]; exact at1
  have at2 : h3.at_ (h.size + 1) = .cells [Value.int .i64 0, .int .i64 0, .string ⟨#[]⟩, .slice none 0 0, .slice none 0 0] 5 false true := by
    rw [hh, push_old (by omega)]; exact at2
  have at3 : h3.at_ h2.size = .cells [] 1 false true := by
    rw [hh]; exact push_new
  rw [← hh]
  clear hh
  obtain ⟨xs, hx1, hx2, hx3⟩ := src_rd (hk.ext hS ext3)
  simp only [List.length_map] at hx1 hx3
  refine app_full (.inr ⟨h2.size, false, rfl, at3, rfl, rfl, by omega⟩) hx1 hx3 (by omega) (by omega) ?_
  intro v4 h4 B4 s1 s2 hk4 hB4 full4
  have one4 := full4.one
  have lt4 := full4.lt
  have own4 := full_keys full4 (Nat.zero_add _) hx2
  have at1 := (hk4 _ (by omega) (by simp only [List.mem_singleton]; omega)).trans at1
  have at2 := (hk4 _ (by omega) (by simp only [List.mem_singleton]; omega)).trans at2
  have ge4 : ∀ n ∈ B4, h.size + 2 ≤ n := fun n hn => by
    rcases hB4 n hn with e | e
    · simp only [List.mem_singleton] at e; omega
    · omega
  have ext4 : Ext h h4 := ⟨by omega, fun n hn => (hk4 n (by omega) (by simp only [List.mem_singleton]; omega)).trans (ext3.old n hn)⟩
  refine ⟨?_, ?_⟩
  · simp -dsimp -implicitDefEqProofs only [Z00, Z01, Z02, Z03, Z04, Z05, Z06, Z07, Z08, Z09, Z0a, Z0b, Z0c, Z0d, Z0e, Z0f, Z0g, Z0h, Z0i, Z0j, Z0k, Z0l, Z0m, Z0n, Z0o, Z0p, Z0q, Z0r, Z0s, Z0t, Z0u, Z0v, Z0w, Z0x, Z0y, Z0z, Z10, Z11, Z12, Z13, Z14, Z15, Z16, Z17, Z18, Z19, ↓reduceIte, Nat.reduceEqDiff, Z1a, Z1b, Z1c, Z1d, Z1e, Z1f, Z1g, Z1h, Z1i, Z1j, Z1k, Z1l, Z1m, Z1n, Z1o, Z1p, Z1q, Z1r, Z1s, Z1t, Z1u, Z1v, Z1w, Z1x, Z1y, Z1z, Z20, Z21, Z22, Z23, Z24, Z25, Z26, Z27, Z28, Z29, Z2a, at1, List.getElem?_cons_succ, List.getElem?_cons_zero, and_self]
  simp -dsimp -implicitDefEqProofs only [Z00, Z01, Z02, Z03, Z04, Z05, Z06, Z07, Z08, Z09, Z0a, Z0b, Z0c, Z0d, Z0e, Z0f, Z0g, Z0h, Z0i, Z0j, Z0k, Z0l, Z0m, Z0n, Z0o, Z0p, Z0q, Z0r, Z0s, Z0t, Z0u, Z0v, Z0w, Z0x, Z0y, Z0z, Z10, Z11, Z12, Z13, Z14, Z15, Z16, Z17, Z18, Z19, ↓reduceIte, Nat.reduceEqDiff, Z1a, Z1b, Z1c, Z1d, Z1e, Z1f, Z1g, Z1h, Z1i, Z1j, Z1k, Z1l, Z1m, Z1n, Z1o, Z1p, Z1q, Z1r, Z1s, Z1t, Z1u, Z1v, Z1w, Z1x, Z1y, Z1z, Z20, Z21, Z22, Z23, Z24, Z25, Z26, Z27, Z28, Z29, Z2a]
  rw [s_bld (c := [.int .i64 a, .int .i64 b, .string t, v4, .slice none 0 0]) rfl (by simp [fillC, setAt, cells_one one4, show (Value.int .i64 a).cells = #[.int .i64 a] from rfl, show (Value.int .i64 b).cells = #[.int .i64 b] from rfl, show (Value.string t).cells = #[.string t] from rfl])]
  simp -dsimp -implicitDefEqProofs only [Z00, Z01, Z02, Z03, Z04, Z05, Z06, Z07, Z08, Z09, Z0a, Z0b, Z0c, Z0d, Z0e, Z0f, Z0g, Z0h, Z0i, Z0j, Z0k, Z0l, Z0m, Z0n, Z0o, Z0p, Z0q, Z0r, Z0s, Z0t, Z0u, Z0v, Z0w, Z0x, Z0y, Z0z, Z10, Z11, Z12, Z13, Z14, Z15, Z16, Z17, Z18, Z19, ↓reduceIte, Nat.reduceEqDiff, Z1a, Z1b, Z1c, Z1d, Z1e, Z1f, Z1g, Z1h, Z1i, Z1j, Z1k, Z1l, Z1m, Z1n, Z1o, Z1p, Z1q, Z1r, Z1s, Z1t, Z1u, Z1v, Z1w, Z1x, Z1y, Z1z, Z20, Z21, Z22, Z23, Z24, Z25, Z26, Z27, Z28, Z29, Z2a, st_all (m := 5) (x := [.int .i64 a, .int .i64 b, .string t, v4, .slice none 0 0]) (c := [.int .i64 0, .int .i64 0, .string ⟨#[]⟩, .slice none 0 0, .slice none 0 0]) (by simp only [List.all_cons, List.all_nil, one4]; rfl) rfl rfl]
  have hh : ∃ h5, h5 = (h4.push (.cells [Value.int .i64 0, .int .i64 0, .string ⟨#[]⟩, .slice none 0 0, .slice none 0 0] 5 false true)).set h4.size (.cells [Value.int .i64 a, .int .i64 b, .string t, v4, .slice none 0 0] 5 false true) := ⟨_, rfl⟩
  obtain ⟨h5, hh⟩ := hh
  have sz5 : h5.size = h4.size + 1 := by rw [hh]; rfl
  have ext5 : Ext h h5 := by rw [hh]; exact (ext4.trans (Ext.push _ _)).set (by omega)
  have at1 : h5.at_ h.size = .cells [Value.int .i64 a, .int .i64 b, .string t, vk, vl] 5 false true := by
    rw [hh, set_other (by omega), push_old (by omega)]; exact at1
  have at2 : h5.at_ (h.size + 1) = .cells [Value.int .i64 0, .int .i64 0, .string ⟨#[]⟩, .slice none 0 0, .slice none 0 0] 5 false true := by
    rw [hh, set_other (by omega), push_old (by omega)]; exact at2
  have at3 : h5.at_ h4.size = .cells [Value.int .i64 a, .int .i64 b, .string t, v4, .slice none 0 0] 5 false true := by
    rw [hh]; exact set_same
  have own4 : Own h5 (encK ks) [v4] B4 := own4.keep fun n hn => by
    have := lt4 n hn
    rw [hh, set_other (by omega), push_old (by omega)]
  rw [← hh]
  clear hh
  obtain ⟨al, capl, rfl, hel⟩ := hd.slice
  simp only [encL_len] at hel at1 ⊢
  simp -dsimp -implicitDefEqProofs only [Z00, Z01, Z02, Z03, Z04, Z05, Z06, Z07, Z08, Z09, Z0a, Z0b, Z0c, Z0d, Z0e, Z0f, Z0g, Z0h, Z0i, Z0j, Z0k, Z0l, Z0m, Z0n, Z0o, Z0p, Z0q, Z0r, Z0s, Z0t, Z0u, Z0v, Z0w, Z0x, Z0y, Z0z, Z10, Z11, Z12, Z13, Z14, Z15, Z16, Z17, Z18, Z19, ↓reduceIte, Nat.reduceEqDiff, Z1a, Z1b, Z1c, Z1d, Z1e, Z1f, Z1g, Z1h, Z1i, Z1j, Z1k, Z1l, Z1m, Z1n, Z1o, Z1p, Z1q, Z1r, Z1s, Z1t, Z1u, Z1v, Z1w, Z1x, Z1y, Z1z, Z20, Z21, Z22, Z23, Z24, Z25, Z26, Z27, Z28, Z29, Z2a, at1, List.getElem?_cons_succ, List.getElem?_cons_zero, Nat.zero_add]
  refine loopT_of (wpC_loop (fun ρ h6 => ∃ (i : Nat) (v : Value) (cs : List Value) (B F : List Nat), Ext h h6 ∧ h5.size ≤ h6.size ∧ (∀ n, n < h4.size → h6.at_ n = h5.at_ n) ∧ h6.at_ h4.size = .cells [Value.int .i64 a, .int .i64 b, .string t, v4, v] 5 false true ∧ Full h6 5 v i cs B ∧ Owns h6 (encL (kd.take i)) cs F ∧ (∀ n ∈ B, h4.size < n ∧ n ∉ F) ∧ (∀ n ∈ F, h4.size < n ∧ n < h6.size) ∧
      i ≤ kd.length ∧ ρ 2 = .pointer (some ⟨h.size + 1, 0, none⟩) ∧ ρ 3 = .pointer (some ⟨h4.size, 0, none⟩) ∧ ρ 18 = .slice al kd.length capl ∧ ρ 19 = .int .i64 kd.length ∧ ρ 20 = .int .i64 i)
      (fun ρ h1 => kd.length - intOf (ρ 20)) ⟨0, _, [], [], [], ext5, Nat.le_refl _, fun _ _ => rfl, at3, .inl ⟨rfl, rfl, rfl, rfl⟩, by simp [encL, Owns], by simp, by simp, Nat.zero_le _, ?_, ?_, ?_, ?_, ?_⟩ ?_)
  · simp -dsimp -implicitDefEqProofs only [Z00, Z01, Z02, Z03, Z04, Z05, Z06, Z07, Z08, Z09, Z0a, Z0b, Z0c, Z0d, Z0e, Z0f, Z0g, Z0h, Z0i, Z0j, Z0k, Z0l, Z0m, Z0n, Z0o, Z0p, Z0q, Z0r, Z0s, Z0t, Z0u, Z0v, Z0w, Z0x, Z0y, Z0z, Z10, Z11, Z12, Z13, Z14, Z15, Z16, Z17, Z18, Z19, ↓reduceIte, Nat.reduceEqDiff, Z1a, Z1b, Z1c, Z1d, Z1e, Z1f, Z1g, Z1h, Z1i, Z1j, Z1k, Z1l, Z1m, Z1n, Z1o, Z1p, Z1q, Z1r, Z1s, Z1t, Z1u, Z1v, Z1w, Z1x, Z1y, Z1z, Z20, Z21, Z22, Z23, Z24, Z25, Z26, Z27, Z28, Z29, Z2a]
  · simp -dsimp -implicitDefEqProofs only [Z00, Z01, Z02, Z03, Z04, Z05, Z06, Z07, Z08, Z09, Z0a, Z0b, Z0c, Z0d, Z0e, Z0f, Z0g, Z0h, Z0i, Z0j, Z0k, Z0l, Z0m, Z0n, Z0o, Z0p, Z0q, Z0r, Z0s, Z0t, Z0u, Z0v, Z0w, Z0x, Z0y, Z0z, Z10, Z11, Z12, Z13, Z14, Z15, Z16, Z17, Z18, Z19, ↓reduceIte, Nat.reduceEqDiff, Z1a, Z1b, Z1c, Z1d, Z1e, Z1f, Z1g, Z1h, Z1i, Z1j, Z1k, Z1l, Z1m, Z1n, Z1o, Z1p, Z1q, Z1r, Z1s, Z1t, Z1u, Z1v, Z1w, Z1x, Z1y, Z1z, Z20, Z21, Z22, Z23, Z24, Z25, Z26, Z27, Z28, Z29, Z2a]
  · simp -dsimp -implicitDefEqProofs only [Z00, Z01, Z02, Z03, Z04, Z05, Z06, Z07, Z08, Z09, Z0a, Z0b, Z0c, Z0d, Z0e, Z0f, Z0g, Z0h, Z0i, Z0j, Z0k, Z0l, Z0m, Z0n, Z0o, Z0p, Z0q, Z0r, Z0s, Z0t, Z0u, Z0v, Z0w, Z0x, Z0y, Z0z, Z10, Z11, Z12, Z13, Z14, Z15, Z16, Z17, Z18, Z19, ↓reduceIte, Nat.reduceEqDiff, Z1a, Z1b, Z1c, Z1d, Z1e, Z1f, Z1g, Z1h, Z1i, Z1j, Z1k, Z1l, Z1m, Z1n, Z1o, Z1p, Z1q, Z1r, Z1s, Z1t, Z1u, Z1v, Z1w, Z1x, Z1y, Z1z, Z20, Z21, Z22, Z23, Z24, Z25, Z26, Z27, Z28, Z29, Z2a]
  · simp -dsimp -implicitDefEqProofs only [Z00, Z01, Z02, Z03, Z04, Z05, Z06, Z07, Z08, Z09, Z0a, Z0b, Z0c, Z0d, Z0e, Z0f, Z0g, Z0h, Z0i, Z0j, Z0k, Z0l, Z0m, Z0n, Z0o, Z0p, Z0q, Z0r, Z0s, Z0t, Z0u, Z0v, Z0w, Z0x, Z0y, Z0z, Z10, Z11, Z12, Z13, Z14, Z15, Z16, Z17, Z18, Z19, ↓reduceIte, Nat.reduceEqDiff, Z1a, Z1b, Z1c, Z1d, Z1e, Z1f, Z1g, Z1h, Z1i, Z1j, Z1k, Z1l, Z1m, Z1n, Z1o, Z1p, Z1q, Z1r, Z1s, Z1t, Z1u, Z1v, Z1w, Z1x, Z1y, Z1z, Z20, Z21, Z22, Z23, Z24, Z25, Z26, Z27, Z28, Z29, Z2a]
  · simp -dsimp -implicitDefEqProofs only [Z00, Z01, Z02, Z03, Z04, Z05, Z06, Z07, Z08, Z09, Z0a, Z0b, Z0c, Z0d, Z0e, Z0f, Z0g, Z0h, Z0i, Z0j, Z0k, Z0l, Z0m, Z0n, Z0o, Z0p, Z0q, Z0r, Z0s, Z0t, Z0u, Z0v, Z0w, Z0x, Z0y, Z0z, Z10, Z11, Z12, Z13, Z14, Z15, Z16, Z17, Z18, Z19, ↓reduceIte, Nat.reduceEqDiff, Z1a, Z1b, Z1c, Z1d, Z1e, Z1f, Z1g, Z1h, Z1i, Z1j, Z1k, Z1l, Z1m, Z1n, Z1o, Z1p, Z1q, Z1r, Z1s, Z1t, Z1u, Z1v, Z1w, Z1x, Z1y, Z1z, Z20, Z21, Z22, Z23, Z24, Z25, Z26, Z27, Z28, Z29, Z2a]; rfl
  rintro ρ h6 ⟨i, v, cs, B, F, ext6, sz6, keep6, bt3, full6, own6, hB, hF, hi, e2, e3, e18, e19, e20⟩
  have lt6 := full6.lt
  have bt2 := (keep6 _ (by omega)).trans at2
  simp -dsimp -implicitDefEqProofs only [Z00, Z01, Z02, Z03, Z04, Z05, Z06, Z07, Z08, Z09, Z0a, Z0b, Z0c, Z0d, Z0e, Z0f, Z0g, Z0h, Z0i, Z0j, Z0k, Z0l, Z0m, Z0n, Z0o, Z0p, Z0q, Z0r, Z0s, Z0t, Z0u, Z0v, Z0w, Z0x, Z0y, Z0z, Z10, Z11, Z12, Z13, Z14, Z15, Z16, Z17, Z18, Z19, ↓reduceIte, Nat.reduceEqDiff, Z1a, Z1b, Z1c, Z1d, Z1e, Z1f, Z1g, Z1h, Z1i, Z1j, Z1k, Z1l, Z1m, Z1n, Z1o, Z1p, Z1q, Z1r, Z1s, Z1t, Z1u, Z1v, Z1w, Z1x, Z1y, Z1z, Z20, Z21, Z22, Z23, Z24, Z25, Z26, Z27, Z28, Z29, Z2a, e2, e3, e18, e19, e20]
  refine ifW_intro (fun hc => ?_) (fun hc => ?_)
  · simp only [decide_eq_true_eq] at hc
    have hi2 : i < kd.length := by omega
    obtain ⟨n, o, cc, opn, rw, rfl, hSn, hat, hlen, hcs⟩ := hel i hi2
    have hcell := hcs i (encO kd[i]) (by simp [encL_eq, hi2])
    have hat6 := (ext6.old n (hS n hSn)).trans hat
    have room : o + i * 5 + 5 ≤ cc.length := by omega
    simp -dsimp -implicitDefEqProofs only [Z00, Z01, Z02, Z03, Z04, Z05, Z06, Z07, Z08, Z09, Z0a, Z0b, Z0c, Z0d, Z0e, Z0f, Z0g, Z0h, Z0i, Z0j, Z0k, Z0l, Z0m, Z0n, Z0o, Z0p, Z0q, Z0r, Z0s, Z0t, Z0u, Z0v, Z0w, Z0x, Z0y, Z0z, Z10, Z11, Z12, Z13, Z14, Z15, Z16, Z17, Z18, Z19, ↓reduceIte, Nat.reduceEqDiff, Z1a, Z1b, Z1c, Z1d, Z1e, Z1f, Z1g, Z1h, Z1i, Z1j, Z1k, Z1l, Z1m, Z1n, Z1o, Z1p, Z1q, Z1r, Z1s, Z1t, Z1u, Z1v, Z1w, Z1x, Z1y, Z1z, Z20, Z21, Z22, Z23, Z24, Z25, Z26, Z27, Z28, Z29, Z2a, e2, e3, e18, e19, e20, s_iaddr (Int.natCast_nonneg i) hc, s_loadA hat6 room, Int.toNat_natCast]
    revert hcell
    generalize (cc.drop (o + i * 5)).take 5 = x
    intro hcell
    have xl : x.length = 5 := hcell.len.trans (wid_obj _)
    rw [st_all (m := 5) (c := [.int .i64 0, .int .i64 0, .string ⟨#[]⟩, .slice none 0 0, .slice none 0 0]) hcell.ones xl rfl]
    have hh : ∃ h7, h7 = (h6.push (.cells [Value.int .i64 0, .int .i64 0, .string ⟨#[]⟩, .slice none 0 0, .slice none 0 0] 5 false true)).set h6.size (.cells x 5 false true) := ⟨_, rfl⟩
    obtain ⟨h7, hh⟩ := hh
    have sz7 : h7.size = h6.size + 1 := by rw [hh]; rfl
    have ext7 : Ext h6 h7 := by rw [hh]; exact (Ext.push _ _).set (Nat.le_refl _)
    have at7 : h7.at_ h6.size = .cells x 5 false true := by rw [hh]; exact set_same
    have bt37 := (ext7.old _ (by omega)).trans bt3
    rw [← hh]
    clear hh
    have ext67 := ext6.trans ext7
    simp -dsimp -implicitDefEqProofs only [Z00, Z01, Z02, Z03, Z04, Z05, Z06, Z07, Z08, Z09, Z0a, Z0b, Z0c, Z0d, Z0e, Z0f, Z0g, Z0h, Z0i, Z0j, Z0k, Z0l, Z0m, Z0n, Z0o, Z0p, Z0q, Z0r, Z0s, Z0t, Z0u, Z0v, Z0w, Z0x, Z0y, Z0z, Z10, Z11, Z12, Z13, Z14, Z15, Z16, Z17, Z18, Z19, ↓reduceIte, Nat.reduceEqDiff, Z1a, Z1b, Z1c, Z1d, Z1e, Z1f, Z1g, Z1h, Z1i, Z1j, Z1k, Z1l, Z1m, Z1n, Z1o, Z1p, Z1q, Z1r, Z1s, Z1t, Z1u, Z1v, Z1w, Z1x, Z1y, Z1z, Z20, Z21, Z22, Z23, Z24, Z25, Z26, Z27, Z28, Z29, Z2a, e2, e3, e18, e19, e20, bt37, at7, Nat.zero_add, List.getElem?_cons_succ, List.getElem?_cons_zero, ldA_cells, xl, Nat.le_refl, List.drop_zero, List.take_of_length_le (Nat.le_of_eq xl)]
    refine callT_of (ih kd[i] (List.getElem_mem hi2) h7 S _ (hcell.ext hS ext67) (ext67.lt hS) (smL_mem z5 _ (List.getElem_mem hi2))) ?_
    rintro r h8 - ⟨ext8, cs', G, rfl, hown, hG⟩
    have hl5 : cs'.length = 5 := hown.len.trans (wid_obj _)
    have hone : cs'.all (·.oneCell') = true := hown.rd.ones
    have s8 := ext8.size
    have bt38 := (ext8.old _ (by omega)).trans bt37
    have hcells : (Value.agg cs'.toArray).cells.toList = cs' := rfl
    refine ⟨?_, ?_⟩
    · simp -dsimp -implicitDefEqProofs only [Z00, Z01, Z02, Z03, Z04, Z05, Z06, Z07, Z08, Z09, Z0a, Z0b, Z0c, Z0d, Z0e, Z0f, Z0g, Z0h, Z0i, Z0j, Z0k, Z0l, Z0m, Z0n, Z0o, Z0p, Z0q, Z0r, Z0s, Z0t, Z0u, Z0v, Z0w, Z0x, Z0y, Z0z, Z10, Z11, Z12, Z13, Z14, Z15, Z16, Z17, Z18, Z19, ↓reduceIte, Nat.reduceEqDiff, Z1a, Z1b, Z1c, Z1d, Z1e, Z1f, Z1g, Z1h, Z1i, Z1j, Z1k, Z1l, Z1m, Z1n, Z1o, Z1p, Z1q, Z1r, Z1s, Z1t, Z1u, Z1v, Z1w, Z1x, Z1y, Z1z, Z20, Z21, Z22, Z23, Z24, Z25, Z26, Z27, Z28, Z29, Z2a, e2, e3, e18, e19, e20, bt38, List.getElem?_cons_succ, List.getElem?_cons_zero, Nat.zero_add, and_self]
    simp -dsimp -implicitDefEqProofs only [Z00, Z01, Z02, Z03, Z04, Z05, Z06, Z07, Z08, Z09, Z0a, Z0b, Z0c, Z0d, Z0e, Z0f, Z0g, Z0h, Z0i, Z0j, Z0k, Z0l, Z0m, Z0n, Z0o, Z0p, Z0q, Z0r, Z0s, Z0t, Z0u, Z0v, Z0w, Z0x, Z0y, Z0z, Z10, Z11, Z12, Z13, Z14, Z15, Z16, Z17, Z18, Z19, ↓reduceIte, Nat.reduceEqDiff, Z1a, Z1b, Z1c, Z1d, Z1e, Z1f, Z1g, Z1h, Z1i, Z1j, Z1k, Z1l, Z1m, Z1n, Z1o, Z1p, Z1q, Z1r, Z1s, Z1t, Z1u, Z1v, Z1w, Z1x, Z1y, Z1z, Z20, Z21, Z22, Z23, Z24, Z25, Z26, Z27, Z28, Z29, Z2a, e2, e3, e18, e19, e20]
    rw [s_blds1 (k := 5) (z := [.int .i64 0, .int .i64 0, .string ⟨#[]⟩, .slice none 0 0, .slice none 0 0]) rfl (by simpa [Value.cells] using hl5) (by simpa [Value.cells] using hone), hcells]
    have hh : ∃ h9, h9 = h8.push (.cells cs' 5 false true) := ⟨_, rfl⟩
    obtain ⟨h9, hh⟩ := hh
    have ext9 : Ext h8 h9 := by rw [hh]; exact Ext.push _ _
    have sz9 : h9.size = h8.size + 1 := by rw [hh]; rfl
    have at9 : h9.at_ h8.size = .cells cs' 5 false true := by rw [hh]; exact push_new
    rw [← hh]
    clear hh
    simp -dsimp -implicitDefEqProofs only [Z00, Z01, Z02, Z03, Z04, Z05, Z06, Z07, Z08, Z09, Z0a, Z0b, Z0c, Z0d, Z0e, Z0f, Z0g, Z0h, Z0i, Z0j, Z0k, Z0l, Z0m, Z0n, Z0o, Z0p, Z0q, Z0r, Z0s, Z0t, Z0u, Z0v, Z0w, Z0x, Z0y, Z0z, Z10, Z11, Z12, Z13, Z14, Z15, Z16, Z17, Z18, Z19, ↓reduceIte, Nat.reduceEqDiff, Z1a, Z1b, Z1c, Z1d, Z1e, Z1f, Z1g, Z1h, Z1i, Z1j, Z1k, Z1l, Z1m, Z1n, Z1o, Z1p, Z1q, Z1r, Z1s, Z1t, Z1u, Z1v, Z1w, Z1x, Z1y, Z1z, Z20, Z21, Z22, Z23, Z24, Z25, Z26, Z27, Z28, Z29, Z2a, e2, e3, e18, e19, e20]
    have ext69 := (ext7.trans ext8).trans ext9
    have full9 : Full h9 5 v i cs B := full6.keep (by omega) fun n hn => ext69.old n (lt6 n hn)
    refine app_full full9 (src_one at9 hl5) (by omega) (by omega) (by omega) ?_
    intro v10 h10 B10 s101 s102 hk10 hB10 full10
    have k10 : ∀ n, n < h6.size → n ∉ B → h10.at_ n = h6.at_ n := fun n hn hnB => (hk10 n (by omega) hnB).trans (ext69.old n hn)
    have one10 := full10.one
    have bt310 := (k10 _ (by omega) (fun hmB => by have := (hB _ hmB).1; omega)).trans bt3
    simp -dsimp -implicitDefEqProofs only [Z00, Z01, Z02, Z03, Z04, Z05, Z06, Z07, Z08, Z09, Z0a, Z0b, Z0c, Z0d, Z0e, Z0f, Z0g, Z0h, Z0i, Z0j, Z0k, Z0l, Z0m, Z0n, Z0o, Z0p, Z0q, Z0r, Z0s, Z0t, Z0u, Z0v, Z0w, Z0x, Z0y, Z0z, Z10, Z11, Z12, Z13, Z14, Z15, Z16, Z17, Z18, Z19, ↓reduceIte, Nat.reduceEqDiff, Z1a, Z1b, Z1c, Z1d, Z1e, Z1f, Z1g, Z1h, Z1i, Z1j, Z1k, Z1l, Z1m, Z1n, Z1o, Z1p, Z1q, Z1r, Z1s, Z1t, Z1u, Z1v, Z1w, Z1x, Z1y, Z1z, Z20, Z21, Z22, Z23, Z24, Z25, Z26, Z27, Z28, Z29, Z2a, e2, e3, e18, e19, e20, bt310, st_one one10, List.length_cons, List.length_nil, Nat.reduceAdd, Nat.reduceLT, Nat.zero_add, List.set_cons_zero, List.set_cons_succ]
    rw [wrap64 (by omega) (by omega)]
    have hh : ∃ h11, h11 = h10.set h4.size (.cells [Value.int .i64 a, .int .i64 b, .string t, v4, v10] 5 false true) := ⟨_, rfl⟩
    obtain ⟨h11, hh⟩ := hh
    have sz11 : h11.size = h10.size := by rw [hh]; rfl
    have at11 : h11.at_ h4.size = .cells [Value.int .i64 a, .int .i64 b, .string t, v4, v10] 5 false true := by rw [hh]; exact set_same
    have k11 : ∀ n, n ≠ h4.size → h11.at_ n = h10.at_ n := fun n hn => by rw [hh]; exact set_other hn
    rw [← hh]
    clear hh
    have B10gt : ∀ n ∈ B10, h4.size < n := fun n hn => by
      rcases hB10 n hn with hm | rfl
      · exact (hB n hm).1
      · omega
    refine ⟨⟨i + 1, v10, cs ++ cs', B10, F ++ G, ⟨by have := ext6.size; omega, fun n hn => ?_⟩, by omega, fun n hn => ?_, rfl, full10.keep (by omega) (fun n hn => k11 n (by have := B10gt n hn; omega)), ?_, ?_, ?_, hi2, trivial, trivial, trivial, trivial, rfl⟩, ?_⟩
    · have := ext6.size
      exact (k11 n (by omega)).trans ((k10 n (by omega) (fun hnB => by have := (hB n hnB).1; omega)).trans (ext6.old n hn))
    · exact (k11 n (by omega)).trans ((k10 n (by omega) (fun hnB => by have := (hB n hnB).1; omega)).trans (keep6 n hn))
    · rw [List.take_succ_eq_append_getElem hi2, encL_eq, List.map_append, ← encL_eq]
      refine Owns.snoc (hown.keep fun m hm => ?_) (own6.keep fun m hm => ?_) ?_
      · have := hG m hm
        exact (k11 m (by omega)).trans ((hk10 m (by omega) (fun hmB => by have := lt6 m hmB; omega)).trans (ext9.old m this.2))
      · have := hF m hm
        exact (k11 m (by omega)).trans (k10 m this.2 (fun hmB => (hB m hmB).2 hm))
      · intro m hm hm2
        have := (hG m hm2).1
        have := (hF m hm).2
        omega
    · intro m hm
      refine ⟨B10gt m hm, fun hmm => ?_⟩
      rcases hB10 m hm with hm | rfl
      · rcases List.mem_append.1 hmm with hmm | hmm
        · exact (hB m hm).2 hmm
        · have := (hG m hmm).1
          have := lt6 m hm
          omega
      · rcases List.mem_append.1 hmm with hmm | hmm
        · have := (hF _ hmm).2; omega
        · have := (hG _ hmm).2; omega
    · intro m hm
      rcases List.mem_append.1 hm with hm | hm
      · have := hF m hm; omega
      · have := hG m hm; omega
    · simp only [intOf]; omega
  · simp only [decide_eq_false_iff_not] at hc
    have : i = kd.length := by omega
    subst this
    rw [List.take_length] at own6
    have one6 := full6.one
    have own4 : Own h6 (encK ks) [v4] B4 := own4.keep fun n hn => keep6 n (lt4 n hn)
    have ones : ([Value.int .i64 a, .int .i64 b, .string t, v4, v] : List Value).all (·.oneCell') = true := by
      simp only [List.all_cons, List.all_nil, one4, one6]; rfl
    have own2 : Own h6 (.arr 5 (encL kd)) [v] (B ++ F) := Full.own (by rw [encL_len]; exact full6) own6 (fun d hd => wid_mem hd) (fun n hn => (hB n hn).2)
    simp -dsimp -implicitDefEqProofs only [Z00, Z01, Z02, Z03, Z04, Z05, Z06, Z07, Z08, Z09, Z0a, Z0b, Z0c, Z0d, Z0e, Z0f, Z0g, Z0h, Z0i, Z0j, Z0k, Z0l, Z0m, Z0n, Z0o, Z0p, Z0q, Z0r, Z0s, Z0t, Z0u, Z0v, Z0w, Z0x, Z0y, Z0z, Z10, Z11, Z12, Z13, Z14, Z15, Z16, Z17, Z18, Z19, ↓reduceIte, Nat.reduceEqDiff, Z1a, Z1b, Z1c, Z1d, Z1e, Z1f, Z1g, Z1h, Z1i, Z1j, Z1k, Z1l, Z1m, Z1n, Z1o, Z1p, Z1q, Z1r, Z1s, Z1t, Z1u, Z1v, Z1w, Z1x, Z1y, Z1z, Z20, Z21, Z22, Z23, Z24, Z25, Z26, Z27, Z28, Z29, Z2a, e2, e3, e18, e19, e20, bt2, bt3, Nat.zero_add, List.length_cons, List.length_nil, Nat.reduceAdd, Nat.reduceLT, Nat.reduceLeDiff, Nat.le_refl, ldA_cells, List.drop_zero, List.take_succ_cons, List.take_zero, st_all (m := 5) (c := [.int .i64 0, .int .i64 0, .string ⟨#[]⟩, .slice none 0 0, .slice none 0 0]) ones rfl rfl, retK, resC, resV]
    refine ⟨ext6.set (by omega), [Value.int .i64 a, .int .i64 b, .string t, v4, v], B4 ++ (B ++ F), rfl, ?_, ?_⟩
    · have keep : ∀ n, h.size + 2 ≤ n → (h6.set (h.size + 1) (.cells [Value.int .i64 a, .int .i64 b, .string t, v4, v] 5 false true)).at_ n = h6.at_ n :=
        fun n hn => set_other (by omega)
      refine own_obj (own4.keep fun n hn => keep n (ge4 n hn)) (own2.keep fun n hn => keep n ?_) ?_
      · rcases List.mem_append.1 hn with hn | hn
        · have := (hB n hn).1; omega
        · have := (hF n hn).1; omega
      · intro n hn hn2
        have := lt4 n hn
        rcases List.mem_append.1 hn2 with hn2 | hn2
        · have := (hB n hn2).1; omega
        · have := (hF n hn2).1; omega
    · intro n hn
      simp only [set_size]
      rcases List.mem_append.1 hn with hn | hn
      · have := ge4 n hn
        have := lt4 n hn
        omega
      · rcases List.mem_append.1 hn with hn | hn
        · have := (hB n hn).1
          have := lt6 n hn
          omega
        · have := hF n hn; omega

theorem c36 (o : OT) : C36 o := c36_of fun a b t ks kd e o' ho => c36 o'
termination_by SizeOf.sizeOf o
decreasing_by
  subst e
  have := List.sizeOf_lt_of_mem ho
  simp only [OT.mk.sizeOf_spec]
  omega

end Go.Proofs.Ytdfmdclfnhgjiaa.Can
