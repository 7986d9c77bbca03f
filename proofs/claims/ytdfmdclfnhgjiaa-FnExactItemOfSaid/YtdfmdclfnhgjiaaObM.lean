/- The law of Entry, over the second heap.
   Conditions: those that each law names. -/
import Derived.Test.YtdfmdclfnhgjiaaObL
set_option linter.unusedVariables false
set_option linter.unusedSimpArgs false
namespace Go.Proofs.Ytdfmdclfnhgjiaa.Can
open Go

theorem s_cell {h : CH} {L : Value → CH → Prop} {x : List Value} {u : Tok L} (hx : x.all (·.oneCell') = true) (hl : x.length = 5) {n : Nat} :
    stT 5 0 (.agg x.toArray) (.cells [.int .i64 0, .int .i64 0, .string ⟨#[]⟩, .slice none 0 0, .slice none 0 0] 5 false true) n h L u = L undef (h.set n (.cells x 5 false true)) := st_all hx hl rfl

/-- A new cell that holds a struct. -/
theorem Ext.cell {h : CH} {z x : List Value} {k : Nat} : Ext h ((h.push (.cells z k false true)).set h.size (.cells x k false true)) := (Ext.push _ _).set (Nat.le_refl _)

theorem ld5 {x : List Value} (hl : x.length = 5) {k : Nat} {p q : Bool} : ldA 0 5 (.cells x k p q) = some (.agg x.toArray) := by
  simp [ldA, hl, List.take_of_length_le (Nat.le_of_eq hl)]

theorem cntE_mem : ∀ {l : List OT} {o : OT}, o ∈ l → cntO o ≤ cntL l
  | x :: r, o, ho => by
    simp only [cntL]
    rcases List.mem_cons.1 ho with rfl | ho
    · have e : cntE o = 3 + cntO o := by cases o; simp only [cntE, cntO]; omega
      omega
    · have := cntE_mem ho; omega
theorem ent_cases (o : OT) (key : ByteArray) : (entO o key).1 = zeroT ∨ (entO o key).1 ∈ kidsOf o := by
  unfold entO
  split
  · exact .inl rfl
  · show (kidsOf o).getD (atO o key).toNat zeroT = zeroT ∨ _
    by_cases hj : (atO o key).toNat < (kidsOf o).length
    · refine .inr ?_
      simp only [List.getD, List.getElem?_eq_getElem hj, Option.getD_some]
      exact List.getElem_mem hj
    · refine .inl ?_
      simp only [List.getD, List.getElem?_eq_none (Nat.le_of_not_lt hj), Option.getD_none]
theorem ent_ok {o : OT} (hz : okO o) (key : ByteArray) : okO (entO o key).1 := by
  rcases ent_cases o key with e | e
  · rw [e]
    unfold zeroT okO okL
    exact ⟨Nat.zero_le _, Nat.zero_le _, fun s hs => (by cases hs), Nat.zero_le _, trivial⟩
  · cases o
    simp only [okO] at hz
    exact okL_mem hz.2.2.2.2 _ e
theorem ent_cnt (o : OT) (key : ByteArray) : cntO (entO o key).1 ≤ cntO o := by
  rcases ent_cases o key with e | e
  · rw [e]
    simp [zeroT, cntO, cntL]
  · cases o
    have := cntE_mem e
    simp only [kidsOf] at this
    simp only [cntO] at this ⊢
    omega

theorem c3 {h : CH} {S : Nat → Prop} {cs : List Value} {o : OT} {key : ByteArray} (hs : Rd h S (encO o) cs) (hS : ∀ n, S n → n < h.size) (hz : okO o) (hkey : key.size ≤ 9223372036854775807) :
    callW Try.prog 3 [.agg cs.toArray, .string key] h fun r h' => r = .bool true := by
  refine callW_of (wf _) Try.func3 m3_ok (by simp [m3]) ?_
  have hl5 : cs.length = 5 := hs.len.trans (wid_obj _)
  simp -dsimp -implicitDefEqProofs only [Z00, Z01, Z02, Z03, Z04, Z05, Z06, Z07, Z08, Z09, Z0a, Z0b, Z0c, Z0d, Z0e, Z0f, Z0g, Z0h, Z0i, Z0j, Z0k, Z0l, Z0m, Z0n, Z0o, Z0p, Z0q, Z0r, Z0s, Z0t, Z0u, Z0v, Z0w, Z0x, Z0y, Z0z, Z10, Z11, Z12, Z13, Z14, Z15, Z16, Z17, Z18, Z19, ↓reduceIte, Nat.reduceEqDiff, Z1a, Z1b, Z1c, Z1d, Z1e, Z1f, Z1g, Z1h, Z1i, Z1j, Z1k, Z1l, Z1m, Z1n, Z1o, Z1p, Z1q, Z1r, Z1s, Z1t, Z1u, Z1v, Z1w, Z1x, Z1y, Z1z, Z20, Z21, Z22, Z23, Z24, Z25, Z26, Z27, Z28, Z29, Z2a, m3]
  rw [s_box hs.ones]
  obtain ⟨h1, hh⟩ : ∃ h1, h1 = h.push (.cells cs 5 false true) := ⟨_, rfl⟩
  have ext1 : Ext h h1 := by rw [hh]; exact Ext.push _ _
  have sz1 : h1.size = h.size + 1 := by rw [hh]; rfl
  have at1 : h1.at_ h.size = .cells cs 5 false true := by rw [hh]; exact push_new
  rw [← hh]
  clear hh
  simp -dsimp -implicitDefEqProofs only [Z00, Z01, Z02, Z03, Z04, Z05, Z06, Z07, Z08, Z09, Z0a, Z0b, Z0c, Z0d, Z0e, Z0f, Z0g, Z0h, Z0i, Z0j, Z0k, Z0l, Z0m, Z0n, Z0o, Z0p, Z0q, Z0r, Z0s, Z0t, Z0u, Z0v, Z0w, Z0x, Z0y, Z0z, Z10, Z11, Z12, Z13, Z14, Z15, Z16, Z17, Z18, Z19, ↓reduceIte, Nat.reduceEqDiff, Z1a, Z1b, Z1c, Z1d, Z1e, Z1f, Z1g, Z1h, Z1i, Z1j, Z1k, Z1l, Z1m, Z1n, Z1o, Z1p, Z1q, Z1r, Z1s, Z1t, Z1u, Z1v, Z1w, Z1x, Z1y, Z1z, Z20, Z21, Z22, Z23, Z24, Z25, Z26, Z27, Z28, Z29, Z2a]
  refine ifW_intro (fun hc => ?_) (fun hc => ?_)
  · simp -dsimp -implicitDefEqProofs only [Z00, Z01, Z02, Z03, Z04, Z05, Z06, Z07, Z08, Z09, Z0a, Z0b, Z0c, Z0d, Z0e, Z0f, Z0g, Z0h, Z0i, Z0j, Z0k, Z0l, Z0m, Z0n, Z0o, Z0p, Z0q, Z0r, Z0s, Z0t, Z0u, Z0v, Z0w, Z0x, Z0y, Z0z, Z10, Z11, Z12, Z13, Z14, Z15, Z16, Z17, Z18, Z19, ↓reduceIte, Nat.reduceEqDiff, Z1a, Z1b, Z1c, Z1d, Z1e, Z1f, Z1g, Z1h, Z1i, Z1j, Z1k, Z1l, Z1m, Z1n, Z1o, Z1p, Z1q, Z1r, Z1s, Z1t, Z1u, Z1v, Z1w, Z1x, Z1y, Z1z, Z20, Z21, Z22, Z23, Z24, Z25, Z26, Z27, Z28, Z29, Z2a, retK, resC, resV]
  simp -dsimp -implicitDefEqProofs only [Z00, Z01, Z02, Z03, Z04, Z05, Z06, Z07, Z08, Z09, Z0a, Z0b, Z0c, Z0d, Z0e, Z0f, Z0g, Z0h, Z0i, Z0j, Z0k, Z0l, Z0m, Z0n, Z0o, Z0p, Z0q, Z0r, Z0s, Z0t, Z0u, Z0v, Z0w, Z0x, Z0y, Z0z, Z10, Z11, Z12, Z13, Z14, Z15, Z16, Z17, Z18, Z19, ↓reduceIte, Nat.reduceEqDiff, Z1a, Z1b, Z1c, Z1d, Z1e, Z1f, Z1g, Z1h, Z1i, Z1j, Z1k, Z1l, Z1m, Z1n, Z1o, Z1p, Z1q, Z1r, Z1s, Z1t, Z1u, Z1v, Z1w, Z1x, Z1y, Z1z, Z20, Z21, Z22, Z23, Z24, Z25, Z26, Z27, Z28, Z29, Z2a, at1, ld5 hl5]
  refine callT_of (c7 o h1 S cs 1048576 (hs.ext hS ext1) (ext1.lt hS) (by omega) (by omega) hz) ?_
  rintro r h2 - ⟨ext2, rfl⟩
  simp -dsimp -implicitDefEqProofs only [Z00, Z01, Z02, Z03, Z04, Z05, Z06, Z07, Z08, Z09, Z0a, Z0b, Z0c, Z0d, Z0e, Z0f, Z0g, Z0h, Z0i, Z0j, Z0k, Z0l, Z0m, Z0n, Z0o, Z0p, Z0q, Z0r, Z0s, Z0t, Z0u, Z0v, Z0w, Z0x, Z0y, Z0z, Z10, Z11, Z12, Z13, Z14, Z15, Z16, Z17, Z18, Z19, ↓reduceIte, Nat.reduceEqDiff, Z1a, Z1b, Z1c, Z1d, Z1e, Z1f, Z1g, Z1h, Z1i, Z1j, Z1k, Z1l, Z1m, Z1n, Z1o, Z1p, Z1q, Z1r, Z1s, Z1t, Z1u, Z1v, Z1w, Z1x, Z1y, Z1z, Z20, Z21, Z22, Z23, Z24, Z25, Z26, Z27, Z28, Z29, Z2a]
  refine ifW_intro (fun hc2 => ?_) (fun hc2 => ?_)
  · simp -dsimp -implicitDefEqProofs only [Z00, Z01, Z02, Z03, Z04, Z05, Z06, Z07, Z08, Z09, Z0a, Z0b, Z0c, Z0d, Z0e, Z0f, Z0g, Z0h, Z0i, Z0j, Z0k, Z0l, Z0m, Z0n, Z0o, Z0p, Z0q, Z0r, Z0s, Z0t, Z0u, Z0v, Z0w, Z0x, Z0y, Z0z, Z10, Z11, Z12, Z13, Z14, Z15, Z16, Z17, Z18, Z19, ↓reduceIte, Nat.reduceEqDiff, Z1a, Z1b, Z1c, Z1d, Z1e, Z1f, Z1g, Z1h, Z1i, Z1j, Z1k, Z1l, Z1m, Z1n, Z1o, Z1p, Z1q, Z1r, Z1s, Z1t, Z1u, Z1v, Z1w, Z1x, Z1y, Z1z, Z20, Z21, Z22, Z23, Z24, Z25, Z26, Z27, Z28, Z29, Z2a, retK, resC, resV]
  simp only [decide_eq_false_iff_not] at hc2
  obtain ⟨hsm, hcnt⟩ := sm_of_sz o 1048576 (by omega) (by omega) (by omega)
  have e2 := ext1.trans ext2
  have at2 := (ext2.old h.size (by omega)).trans at1
  simp -dsimp -implicitDefEqProofs only [Z00, Z01, Z02, Z03, Z04, Z05, Z06, Z07, Z08, Z09, Z0a, Z0b, Z0c, Z0d, Z0e, Z0f, Z0g, Z0h, Z0i, Z0j, Z0k, Z0l, Z0m, Z0n, Z0o, Z0p, Z0q, Z0r, Z0s, Z0t, Z0u, Z0v, Z0w, Z0x, Z0y, Z0z, Z10, Z11, Z12, Z13, Z14, Z15, Z16, Z17, Z18, Z19, ↓reduceIte, Nat.reduceEqDiff, Z1a, Z1b, Z1c, Z1d, Z1e, Z1f, Z1g, Z1h, Z1i, Z1j, Z1k, Z1l, Z1m, Z1n, Z1o, Z1p, Z1q, Z1r, Z1s, Z1t, Z1u, Z1v, Z1w, Z1x, Z1y, Z1z, Z20, Z21, Z22, Z23, Z24, Z25, Z26, Z27, Z28, Z29, Z2a, at2, ld5 hl5]
  refine callT_of (c9 o h2 S cs (hs.ext hS e2) (e2.lt hS) hsm) ?_
  rintro r h3 - ⟨ext3, csA, FA, rfl, ownA, frA⟩
  have e3 := e2.trans ext3
  have at3 := (ext3.old h.size (by have := ext2.size; omega)).trans at2
  simp -dsimp -implicitDefEqProofs only [Z00, Z01, Z02, Z03, Z04, Z05, Z06, Z07, Z08, Z09, Z0a, Z0b, Z0c, Z0d, Z0e, Z0f, Z0g, Z0h, Z0i, Z0j, Z0k, Z0l, Z0m, Z0n, Z0o, Z0p, Z0q, Z0r, Z0s, Z0t, Z0u, Z0v, Z0w, Z0x, Z0y, Z0z, Z10, Z11, Z12, Z13, Z14, Z15, Z16, Z17, Z18, Z19, ↓reduceIte, Nat.reduceEqDiff, Z1a, Z1b, Z1c, Z1d, Z1e, Z1f, Z1g, Z1h, Z1i, Z1j, Z1k, Z1l, Z1m, Z1n, Z1o, Z1p, Z1q, Z1r, Z1s, Z1t, Z1u, Z1v, Z1w, Z1x, Z1y, Z1z, Z20, Z21, Z22, Z23, Z24, Z25, Z26, Z27, Z28, Z29, Z2a]
  refine callT_of (c8 ownA.rd (fun n hn => (frA n hn).2) hsm) ?_
  rintro r h4 - ⟨ext4, csW, FW, rfl, ownW, frW⟩
  have e4 := e3.trans ext4
  have at4 := (ext4.old h.size (by have := ext2.size; have := ext3.size; omega)).trans at3
  have lW : csW.length = 5 := ownW.len.trans (wid_obj _)
  simp -dsimp -implicitDefEqProofs only [Z00, Z01, Z02, Z03, Z04, Z05, Z06, Z07, Z08, Z09, Z0a, Z0b, Z0c, Z0d, Z0e, Z0f, Z0g, Z0h, Z0i, Z0j, Z0k, Z0l, Z0m, Z0n, Z0o, Z0p, Z0q, Z0r, Z0s, Z0t, Z0u, Z0v, Z0w, Z0x, Z0y, Z0z, Z10, Z11, Z12, Z13, Z14, Z15, Z16, Z17, Z18, Z19, ↓reduceIte, Nat.reduceEqDiff, Z1a, Z1b, Z1c, Z1d, Z1e, Z1f, Z1g, Z1h, Z1i, Z1j, Z1k, Z1l, Z1m, Z1n, Z1o, Z1p, Z1q, Z1r, Z1s, Z1t, Z1u, Z1v, Z1w, Z1x, Z1y, Z1z, Z20, Z21, Z22, Z23, Z24, Z25, Z26, Z27, Z28, Z29, Z2a, List.getElem?_toArray, List.getElem?_cons_zero, List.getElem?_cons_succ, s_cell ownW.rd.ones lW]
  obtain ⟨h5, hh⟩ : ∃ h5, h5 = (h4.push (.cells [Value.int .i64 0, .int .i64 0, .string ⟨#[]⟩, .slice none 0 0, .slice none 0 0] 5 false true)).set h4.size (.cells csW 5 false true) := ⟨_, rfl⟩
  have ext5 : Ext h4 h5 := by rw [hh]; exact Ext.cell
  have sz5 : h5.size = h4.size + 1 := by rw [hh]; rfl
  have atW5 : h5.at_ h4.size = .cells csW 5 false true := by rw [hh]; exact set_same
  rw [← hh]
  clear hh
  have e5 := e4.trans ext5
  have z1 := ext2.size
  have z2 := ext3.size
  have z3 := ext4.size
  have at5 := (ext5.old h.size (by omega)).trans at4
  have ownW5 := ownW.ext (fun n hn => (frW n hn).2) ext5
  simp -dsimp -implicitDefEqProofs only [Z00, Z01, Z02, Z03, Z04, Z05, Z06, Z07, Z08, Z09, Z0a, Z0b, Z0c, Z0d, Z0e, Z0f, Z0g, Z0h, Z0i, Z0j, Z0k, Z0l, Z0m, Z0n, Z0o, Z0p, Z0q, Z0r, Z0s, Z0t, Z0u, Z0v, Z0w, Z0x, Z0y, Z0z, Z10, Z11, Z12, Z13, Z14, Z15, Z16, Z17, Z18, Z19, ↓reduceIte, Nat.reduceEqDiff, Z1a, Z1b, Z1c, Z1d, Z1e, Z1f, Z1g, Z1h, Z1i, Z1j, Z1k, Z1l, Z1m, Z1n, Z1o, Z1p, Z1q, Z1r, Z1s, Z1t, Z1u, Z1v, Z1w, Z1x, Z1y, Z1z, Z20, Z21, Z22, Z23, Z24, Z25, Z26, Z27, Z28, Z29, Z2a, at5, ld5 hl5]
  refine callT_of (c9 o h5 S cs (hs.ext hS e5) (e5.lt hS) hsm) ?_
  rintro r h6 - ⟨ext6, csX, FX, rfl, ownX, frX⟩
  have e6 := e5.trans ext6
  have z4 := ext6.size
  have at6 := (ext6.old h.size (by omega)).trans at5
  have atW6 := (ext6.old h4.size (by omega)).trans atW5
  have ownW6 := ownW5.ext (fun n hn => by have := (frW n hn).2; omega) ext6
  have lX : csX.length = 5 := ownX.len.trans (wid_obj _)
  simp -dsimp -implicitDefEqProofs only [Z00, Z01, Z02, Z03, Z04, Z05, Z06, Z07, Z08, Z09, Z0a, Z0b, Z0c, Z0d, Z0e, Z0f, Z0g, Z0h, Z0i, Z0j, Z0k, Z0l, Z0m, Z0n, Z0o, Z0p, Z0q, Z0r, Z0s, Z0t, Z0u, Z0v, Z0w, Z0x, Z0y, Z0z, Z10, Z11, Z12, Z13, Z14, Z15, Z16, Z17, Z18, Z19, ↓reduceIte, Nat.reduceEqDiff, Z1a, Z1b, Z1c, Z1d, Z1e, Z1f, Z1g, Z1h, Z1i, Z1j, Z1k, Z1l, Z1m, Z1n, Z1o, Z1p, Z1q, Z1r, Z1s, Z1t, Z1u, Z1v, Z1w, Z1x, Z1y, Z1z, Z20, Z21, Z22, Z23, Z24, Z25, Z26, Z27, Z28, Z29, Z2a, s_cell ownX.rd.ones lX]
  obtain ⟨h7, hh⟩ : ∃ h7, h7 = (h6.push (.cells [Value.int .i64 0, .int .i64 0, .string ⟨#[]⟩, .slice none 0 0, .slice none 0 0] 5 false true)).set h6.size (.cells csX 5 false true) := ⟨_, rfl⟩
  have ext7 : Ext h6 h7 := by rw [hh]; exact Ext.cell
  have sz7 : h7.size = h6.size + 1 := by rw [hh]; rfl
  have atX7 : h7.at_ h6.size = .cells csX 5 false true := by rw [hh]; exact set_same
  rw [← hh]
  clear hh
  have e7 := e6.trans ext7
  have at7 := (ext7.old h.size (by omega)).trans at6
  have atW7 := (ext7.old h4.size (by omega)).trans atW6
  have ownW7 := ownW6.ext (fun n hn => by have := (frW n hn).2; omega) ext7
  have ownX7 := ownX.ext (fun n hn => (frX n hn).2) ext7
  simp -dsimp -implicitDefEqProofs only [Z00, Z01, Z02, Z03, Z04, Z05, Z06, Z07, Z08, Z09, Z0a, Z0b, Z0c, Z0d, Z0e, Z0f, Z0g, Z0h, Z0i, Z0j, Z0k, Z0l, Z0m, Z0n, Z0o, Z0p, Z0q, Z0r, Z0s, Z0t, Z0u, Z0v, Z0w, Z0x, Z0y, Z0z, Z10, Z11, Z12, Z13, Z14, Z15, Z16, Z17, Z18, Z19, ↓reduceIte, Nat.reduceEqDiff, Z1a, Z1b, Z1c, Z1d, Z1e, Z1f, Z1g, Z1h, Z1i, Z1j, Z1k, Z1l, Z1m, Z1n, Z1o, Z1p, Z1q, Z1r, Z1s, Z1t, Z1u, Z1v, Z1w, Z1x, Z1y, Z1z, Z20, Z21, Z22, Z23, Z24, Z25, Z26, Z27, Z28, Z29, Z2a, atX7, ld5 lX]
  refine callT_of (c10 ownX7.rd (fun n hn => by have := (frX n hn).2; omega) hsm) ?_
  rintro r h8 - ⟨ext8, csG, FG, rfl, ownG, frG⟩
  have e8 := e7.trans ext8
  have z5 := ext8.size
  have at8 := (ext8.old h.size (by omega)).trans at7
  have atW8 := (ext8.old h4.size (by omega)).trans atW7
  have atX8 := (ext8.old h6.size (by omega)).trans atX7
  have ownW8 := ownW7.ext (fun n hn => by have := (frW n hn).2; omega) ext8
  have ownX8 := ownX7.ext (fun n hn => by have := (frX n hn).2; omega) ext8
  have lG : csG.length = 5 := ownG.len.trans (wid_obj _)
  simp -dsimp -implicitDefEqProofs only [Z00, Z01, Z02, Z03, Z04, Z05, Z06, Z07, Z08, Z09, Z0a, Z0b, Z0c, Z0d, Z0e, Z0f, Z0g, Z0h, Z0i, Z0j, Z0k, Z0l, Z0m, Z0n, Z0o, Z0p, Z0q, Z0r, Z0s, Z0t, Z0u, Z0v, Z0w, Z0x, Z0y, Z0z, Z10, Z11, Z12, Z13, Z14, Z15, Z16, Z17, Z18, Z19, ↓reduceIte, Nat.reduceEqDiff, Z1a, Z1b, Z1c, Z1d, Z1e, Z1f, Z1g, Z1h, Z1i, Z1j, Z1k, Z1l, Z1m, Z1n, Z1o, Z1p, Z1q, Z1r, Z1s, Z1t, Z1u, Z1v, Z1w, Z1x, Z1y, Z1z, Z20, Z21, Z22, Z23, Z24, Z25, Z26, Z27, Z28, Z29, Z2a, List.getElem?_toArray, List.getElem?_cons_zero, List.getElem?_cons_succ, s_cell ownG.rd.ones lG]
  obtain ⟨h9, hh⟩ : ∃ h9, h9 = (h8.push (.cells [Value.int .i64 0, .int .i64 0, .string ⟨#[]⟩, .slice none 0 0, .slice none 0 0] 5 false true)).set h8.size (.cells csG 5 false true) := ⟨_, rfl⟩
  have ext9 : Ext h8 h9 := by rw [hh]; exact Ext.cell
  have sz9 : h9.size = h8.size + 1 := by rw [hh]; rfl
  have atG9 : h9.at_ h8.size = .cells csG 5 false true := by rw [hh]; exact set_same
  rw [← hh]
  clear hh
  have e9 := e8.trans ext9
  have at9 := (ext9.old h.size (by omega)).trans at8
  have atW9 := (ext9.old h4.size (by omega)).trans atW8
  have atX9 := (ext9.old h6.size (by omega)).trans atX8
  have ownW9 := ownW8.ext (fun n hn => by have := (frW n hn).2; omega) ext9
  have ownX9 := ownX8.ext (fun n hn => by have := (frX n hn).2; omega) ext9
  have ownG9 := ownG.ext (fun n hn => (frG n hn).2) ext9
  simp -dsimp -implicitDefEqProofs only [Z00, Z01, Z02, Z03, Z04, Z05, Z06, Z07, Z08, Z09, Z0a, Z0b, Z0c, Z0d, Z0e, Z0f, Z0g, Z0h, Z0i, Z0j, Z0k, Z0l, Z0m, Z0n, Z0o, Z0p, Z0q, Z0r, Z0s, Z0t, Z0u, Z0v, Z0w, Z0x, Z0y, Z0z, Z10, Z11, Z12, Z13, Z14, Z15, Z16, Z17, Z18, Z19, ↓reduceIte, Nat.reduceEqDiff, Z1a, Z1b, Z1c, Z1d, Z1e, Z1f, Z1g, Z1h, Z1i, Z1j, Z1k, Z1l, Z1m, Z1n, Z1o, Z1p, Z1q, Z1r, Z1s, Z1t, Z1u, Z1v, Z1w, Z1x, Z1y, Z1z, Z20, Z21, Z22, Z23, Z24, Z25, Z26, Z27, Z28, Z29, Z2a, atG9, atW9, ld5 lG, ld5 lW]
  have hent : okO (entO o key).1 := ent_ok hz key
  refine callT_of (c11 _ _ h9 _ _ csG csW ownG9.rd ownW9.rd (fun n hn => by have := (frG n hn).2; omega) (fun n hn => by have := (frW n hn).2; omega) hent) ?_
  rintro r h10 - ⟨ext10, b1, rfl, hb1⟩
  have hb1 := hb1.2 rfl
  subst hb1
  have e10 := e9.trans ext10
  have z6 := ext10.size
  have at10 := (ext10.old h.size (by omega)).trans at9
  have atW10 := (ext10.old h4.size (by omega)).trans atW9
  have atX10 := (ext10.old h6.size (by omega)).trans atX9
  have atG10 := (ext10.old h8.size (by omega)).trans atG9
  have ownW10 := ownW9.ext (fun n hn => by have := (frW n hn).2; omega) ext10
  have ownX10 := ownX9.ext (fun n hn => by have := (frX n hn).2; omega) ext10
  have ownG10 := ownG9.ext (fun n hn => by have := (frG n hn).2; omega) ext10
  simp -dsimp -implicitDefEqProofs only [Z00, Z01, Z02, Z03, Z04, Z05, Z06, Z07, Z08, Z09, Z0a, Z0b, Z0c, Z0d, Z0e, Z0f, Z0g, Z0h, Z0i, Z0j, Z0k, Z0l, Z0m, Z0n, Z0o, Z0p, Z0q, Z0r, Z0s, Z0t, Z0u, Z0v, Z0w, Z0x, Z0y, Z0z, Z10, Z11, Z12, Z13, Z14, Z15, Z16, Z17, Z18, Z19, ↓reduceIte, Nat.reduceEqDiff, Z1a, Z1b, Z1c, Z1d, Z1e, Z1f, Z1g, Z1h, Z1i, Z1j, Z1k, Z1l, Z1m, Z1n, Z1o, Z1p, Z1q, Z1r, Z1s, Z1t, Z1u, Z1v, Z1w, Z1x, Z1y, Z1z, Z20, Z21, Z22, Z23, Z24, Z25, Z26, Z27, Z28, Z29, Z2a, Bool.not_true, bne_self_eq_false, Bool.false_eq_true, at10, atX10, ld5 hl5, ld5 lX]
  refine callT_of (c9 o h10 S cs (hs.ext hS e10) (e10.lt hS) hsm) ?_
  rintro r h11 - ⟨ext11, csB, FB, rfl, ownB, frB⟩
  have e11 := e10.trans ext11
  have z7 := ext11.size
  have at11 := (ext11.old h.size (by omega)).trans at10
  have atW11 := (ext11.old h4.size (by omega)).trans atW10
  have atX11 := (ext11.old h6.size (by omega)).trans atX10
  have atG11 := (ext11.old h8.size (by omega)).trans atG10
  have ownW11 := ownW10.ext (fun n hn => by have := (frW n hn).2; omega) ext11
  have ownX11 := ownX10.ext (fun n hn => by have := (frX n hn).2; omega) ext11
  have ownG11 := ownG10.ext (fun n hn => by have := (frG n hn).2; omega) ext11
  refine ⟨?_, ?_⟩
  · simp -dsimp -implicitDefEqProofs only [Z00, Z01, Z02, Z03, Z04, Z05, Z06, Z07, Z08, Z09, Z0a, Z0b, Z0c, Z0d, Z0e, Z0f, Z0g, Z0h, Z0i, Z0j, Z0k, Z0l, Z0m, Z0n, Z0o, Z0p, Z0q, Z0r, Z0s, Z0t, Z0u, Z0v, Z0w, Z0x, Z0y, Z0z, Z10, Z11, Z12, Z13, Z14, Z15, Z16, Z17, Z18, Z19, ↓reduceIte, Nat.reduceEqDiff, Z1a, Z1b, Z1c, Z1d, Z1e, Z1f, Z1g, Z1h, Z1i, Z1j, Z1k, Z1l, Z1m, Z1n, Z1o, Z1p, Z1q, Z1r, Z1s, Z1t, Z1u, Z1v, Z1w, Z1x, Z1y, Z1z, Z20, Z21, Z22, Z23, Z24, Z25, Z26, Z27, Z28, Z29, Z2a, atX11, ld5 lX, and_self]
  simp -dsimp -implicitDefEqProofs only [Z00, Z01, Z02, Z03, Z04, Z05, Z06, Z07, Z08, Z09, Z0a, Z0b, Z0c, Z0d, Z0e, Z0f, Z0g, Z0h, Z0i, Z0j, Z0k, Z0l, Z0m, Z0n, Z0o, Z0p, Z0q, Z0r, Z0s, Z0t, Z0u, Z0v, Z0w, Z0x, Z0y, Z0z, Z10, Z11, Z12, Z13, Z14, Z15, Z16, Z17, Z18, Z19, ↓reduceIte, Nat.reduceEqDiff, Z1a, Z1b, Z1c, Z1d, Z1e, Z1f, Z1g, Z1h, Z1i, Z1j, Z1k, Z1l, Z1m, Z1n, Z1o, Z1p, Z1q, Z1r, Z1s, Z1t, Z1u, Z1v, Z1w, Z1x, Z1y, Z1z, Z20, Z21, Z22, Z23, Z24, Z25, Z26, Z27, Z28, Z29, Z2a]
  refine callT_of (c11 o o h11 _ _ csX csB ownX11.rd ownB.rd (fun n hn => by have := (frX n hn).2; omega) (fun n hn => (frB n hn).2) hz) ?_
  rintro r h12 - ⟨ext12, b2, rfl, hb2⟩
  have hb2 := hb2.2 rfl
  subst hb2
  have e12 := e11.trans ext12
  have z8 := ext12.size
  have at12 := (ext12.old h.size (by omega)).trans at11
  have atW12 := (ext12.old h4.size (by omega)).trans atW11
  have atX12 := (ext12.old h6.size (by omega)).trans atX11
  have atG12 := (ext12.old h8.size (by omega)).trans atG11
  have ownW12 := ownW11.ext (fun n hn => by have := (frW n hn).2; omega) ext12
  have ownX12 := ownX11.ext (fun n hn => by have := (frX n hn).2; omega) ext12
  have ownG12 := ownG11.ext (fun n hn => by have := (frG n hn).2; omega) ext12
  simp -dsimp -implicitDefEqProofs only [Z00, Z01, Z02, Z03, Z04, Z05, Z06, Z07, Z08, Z09, Z0a, Z0b, Z0c, Z0d, Z0e, Z0f, Z0g, Z0h, Z0i, Z0j, Z0k, Z0l, Z0m, Z0n, Z0o, Z0p, Z0q, Z0r, Z0s, Z0t, Z0u, Z0v, Z0w, Z0x, Z0y, Z0z, Z10, Z11, Z12, Z13, Z14, Z15, Z16, Z17, Z18, Z19, ↓reduceIte, Nat.reduceEqDiff, Z1a, Z1b, Z1c, Z1d, Z1e, Z1f, Z1g, Z1h, Z1i, Z1j, Z1k, Z1l, Z1m, Z1n, Z1o, Z1p, Z1q, Z1r, Z1s, Z1t, Z1u, Z1v, Z1w, Z1x, Z1y, Z1z, Z20, Z21, Z22, Z23, Z24, Z25, Z26, Z27, Z28, Z29, Z2a, Bool.not_true, atX12, ld5 lX]
  refine callT_of (c12 ownX12 (fun n hn => by have := (frX n hn).2; omega) (by omega) (by omega)) ?_
  rintro r h13 - ⟨ch13, rfl, -⟩
  have z9 := ch13.1
  have at13 := (ch13.2 h.size (by omega) (fun hm => by have := (frX _ hm).1; omega)).trans at12
  have atW13 := (ch13.2 h4.size (by omega) (fun hm => by have := (frX _ hm).1; omega)).trans atW12
  have atG13 := (ch13.2 h8.size (by omega) (fun hm => by have := (frX _ hm).2; omega)).trans atG12
  have ownW13 := ownW12.keep fun n hn => ch13.2 n (by have := (frW n hn).2; omega) (fun hm => by have := (frX _ hm).1; have := (frW n hn).2; omega)
  have ownG13 := ownG12.keep fun n hn => ch13.2 n (by have := (frG n hn).2; omega) (fun hm => by have := (frX _ hm).2; have := (frG n hn).1; omega)
  have e13 : Ext h h13 := ⟨by omega, fun n hn => (ch13.2 n (by omega) (fun hm => by have := (frX _ hm).1; omega)).trans (e12.old n hn)⟩
  have hk1 : decide ((1 : Int) + cntO o < 0) = false := by simp; omega
  simp -dsimp -implicitDefEqProofs only [Z00, Z01, Z02, Z03, Z04, Z05, Z06, Z07, Z08, Z09, Z0a, Z0b, Z0c, Z0d, Z0e, Z0f, Z0g, Z0h, Z0i, Z0j, Z0k, Z0l, Z0m, Z0n, Z0o, Z0p, Z0q, Z0r, Z0s, Z0t, Z0u, Z0v, Z0w, Z0x, Z0y, Z0z, Z10, Z11, Z12, Z13, Z14, Z15, Z16, Z17, Z18, Z19, ↓reduceIte, Nat.reduceEqDiff, Z1a, Z1b, Z1c, Z1d, Z1e, Z1f, Z1g, Z1h, Z1i, Z1j, Z1k, Z1l, Z1m, Z1n, Z1o, Z1p, Z1q, Z1r, Z1s, Z1t, Z1u, Z1v, Z1w, Z1x, Z1y, Z1z, Z20, Z21, Z22, Z23, Z24, Z25, Z26, Z27, Z28, Z29, Z2a, hk1, atG13, atW13, ld5 lG, ld5 lW]
  refine callT_of (c11 _ _ h13 _ _ csG csW ownG13.rd ownW13.rd (fun n hn => by have := (frG n hn).2; omega) (fun n hn => by have := (frW n hn).2; omega) hent) ?_
  rintro r h14 - ⟨ext14, b3, rfl, hb3⟩
  have hb3 := hb3.2 rfl
  subst hb3
  have e14 := e13.trans ext14
  have z10 := ext14.size
  have at14 := (ext14.old h.size (by omega)).trans at13
  have atW14 := (ext14.old h4.size (by omega)).trans atW13
  have atG14 := (ext14.old h8.size (by omega)).trans atG13
  have ownW14 := ownW13.ext (fun n hn => by have := (frW n hn).2; omega) ext14
  have ownG14 := ownG13.ext (fun n hn => by have := (frG n hn).2; omega) ext14
  have hent2 : cntO (entO o key).1 ≤ 4194304 := by
    have := ent_cnt o key
    have := szO_le o 1048576 (by omega)
    omega
  simp -dsimp -implicitDefEqProofs only [Z00, Z01, Z02, Z03, Z04, Z05, Z06, Z07, Z08, Z09, Z0a, Z0b, Z0c, Z0d, Z0e, Z0f, Z0g, Z0h, Z0i, Z0j, Z0k, Z0l, Z0m, Z0n, Z0o, Z0p, Z0q, Z0r, Z0s, Z0t, Z0u, Z0v, Z0w, Z0x, Z0y, Z0z, Z10, Z11, Z12, Z13, Z14, Z15, Z16, Z17, Z18, Z19, ↓reduceIte, Nat.reduceEqDiff, Z1a, Z1b, Z1c, Z1d, Z1e, Z1f, Z1g, Z1h, Z1i, Z1j, Z1k, Z1l, Z1m, Z1n, Z1o, Z1p, Z1q, Z1r, Z1s, Z1t, Z1u, Z1v, Z1w, Z1x, Z1y, Z1z, Z20, Z21, Z22, Z23, Z24, Z25, Z26, Z27, Z28, Z29, Z2a, Bool.not_true, bne_self_eq_false, Bool.false_eq_true, hk1, atG14, ld5 lG]
  refine callT_of (c12 ownG14 (fun n hn => by have := (frG n hn).2; omega) (by omega) (by omega)) ?_
  rintro r h15 - ⟨ch15, rfl, ownG15⟩
  have z11 := ch15.1
  have at15 := (ch15.2 h.size (by omega) (fun hm => by have := (frG _ hm).1; omega)).trans at14
  have atW15 := (ch15.2 h4.size (by omega) (fun hm => by have := (frG _ hm).1; omega)).trans atW14
  have atG15 := (ch15.2 h8.size (by omega) (fun hm => by have := (frG _ hm).2; omega)).trans atG14
  have ownW15 := ownW14.keep fun n hn => ch15.2 n (by have := (frW n hn).2; omega) (fun hm => by have := (frG _ hm).1; have := (frW n hn).2; omega)
  have e15 : Ext h h15 := ⟨by omega, fun n hn => (ch15.2 n (by omega) (fun hm => by have := (frG _ hm).1; omega)).trans (e14.old n hn)⟩
  have hk2 : decide ((1 : Int) + cntO (entO o key).1 < 0) = false := by simp; omega
  simp -dsimp -implicitDefEqProofs only [Z00, Z01, Z02, Z03, Z04, Z05, Z06, Z07, Z08, Z09, Z0a, Z0b, Z0c, Z0d, Z0e, Z0f, Z0g, Z0h, Z0i, Z0j, Z0k, Z0l, Z0m, Z0n, Z0o, Z0p, Z0q, Z0r, Z0s, Z0t, Z0u, Z0v, Z0w, Z0x, Z0y, Z0z, Z10, Z11, Z12, Z13, Z14, Z15, Z16, Z17, Z18, Z19, ↓reduceIte, Nat.reduceEqDiff, Z1a, Z1b, Z1c, Z1d, Z1e, Z1f, Z1g, Z1h, Z1i, Z1j, Z1k, Z1l, Z1m, Z1n, Z1o, Z1p, Z1q, Z1r, Z1s, Z1t, Z1u, Z1v, Z1w, Z1x, Z1y, Z1z, Z20, Z21, Z22, Z23, Z24, Z25, Z26, Z27, Z28, Z29, Z2a, atG15, ld5 lG]
  refine callT_of (c13 ownG15.rd (fun n hn => by have := (frG n hn).2; omega) (by omega) (by omega)) ?_
  rintro r h16 - ⟨ext16, rfl⟩
  have e16 := e15.trans ext16
  have z12 := ext16.size
  have at16 := (ext16.old h.size (by omega)).trans at15
  have atW16 := (ext16.old h4.size (by omega)).trans atW15
  have atG16 := (ext16.old h8.size (by omega)).trans atG15
  have ownW16 := ownW15.ext (fun n hn => by have := (frW n hn).2; omega) ext16
  have ownG16 := ownG15.ext (fun n hn => by have := (frG n hn).2; omega) ext16
  simp -dsimp -implicitDefEqProofs only [Z00, Z01, Z02, Z03, Z04, Z05, Z06, Z07, Z08, Z09, Z0a, Z0b, Z0c, Z0d, Z0e, Z0f, Z0g, Z0h, Z0i, Z0j, Z0k, Z0l, Z0m, Z0n, Z0o, Z0p, Z0q, Z0r, Z0s, Z0t, Z0u, Z0v, Z0w, Z0x, Z0y, Z0z, Z10, Z11, Z12, Z13, Z14, Z15, Z16, Z17, Z18, Z19, ↓reduceIte, Nat.reduceEqDiff, Z1a, Z1b, Z1c, Z1d, Z1e, Z1f, Z1g, Z1h, Z1i, Z1j, Z1k, Z1l, Z1m, Z1n, Z1o, Z1p, Z1q, Z1r, Z1s, Z1t, Z1u, Z1v, Z1w, Z1x, Z1y, Z1z, Z20, Z21, Z22, Z23, Z24, Z25, Z26, Z27, Z28, Z29, Z2a, hk2, bne_self_eq_false, Bool.false_eq_true, at16, ld5 hl5]
  refine callT_of (c9 o h16 S cs (hs.ext hS e16) (e16.lt hS) hsm) ?_
  rintro r h17 - ⟨ext17, csC, FC, rfl, ownC, frC⟩
  have e17 := e16.trans ext17
  have z13 := ext17.size
  have atW17 := (ext17.old h4.size (by omega)).trans atW16
  have atG17 := (ext17.old h8.size (by omega)).trans atG16
  have ownW17 := ownW16.ext (fun n hn => by have := (frW n hn).2; omega) ext17
  have ownG17 := ownG16.ext (fun n hn => by have := (frG n hn).2; omega) ext17
  simp -dsimp -implicitDefEqProofs only [Z00, Z01, Z02, Z03, Z04, Z05, Z06, Z07, Z08, Z09, Z0a, Z0b, Z0c, Z0d, Z0e, Z0f, Z0g, Z0h, Z0i, Z0j, Z0k, Z0l, Z0m, Z0n, Z0o, Z0p, Z0q, Z0r, Z0s, Z0t, Z0u, Z0v, Z0w, Z0x, Z0y, Z0z, Z10, Z11, Z12, Z13, Z14, Z15, Z16, Z17, Z18, Z19, ↓reduceIte, Nat.reduceEqDiff, Z1a, Z1b, Z1c, Z1d, Z1e, Z1f, Z1g, Z1h, Z1i, Z1j, Z1k, Z1l, Z1m, Z1n, Z1o, Z1p, Z1q, Z1r, Z1s, Z1t, Z1u, Z1v, Z1w, Z1x, Z1y, Z1z, Z20, Z21, Z22, Z23, Z24, Z25, Z26, Z27, Z28, Z29, Z2a]
  refine callT_of (c10 ownC.rd (fun n hn => (frC n hn).2) hsm) ?_
  rintro r h18 - ⟨ext18, csH, FH, rfl, ownH, frH⟩
  have z14 := ext18.size
  have atW18 := (ext18.old h4.size (by omega)).trans atW17
  have atG18 := (ext18.old h8.size (by omega)).trans atG17
  have ownW18 := ownW17.ext (fun n hn => by have := (frW n hn).2; omega) ext18
  have ownG18 := ownG17.ext (fun n hn => by have := (frG n hn).2; omega) ext18
  have lH : csH.length = 5 := ownH.len.trans (wid_obj _)
  simp -dsimp -implicitDefEqProofs only [Z00, Z01, Z02, Z03, Z04, Z05, Z06, Z07, Z08, Z09, Z0a, Z0b, Z0c, Z0d, Z0e, Z0f, Z0g, Z0h, Z0i, Z0j, Z0k, Z0l, Z0m, Z0n, Z0o, Z0p, Z0q, Z0r, Z0s, Z0t, Z0u, Z0v, Z0w, Z0x, Z0y, Z0z, Z10, Z11, Z12, Z13, Z14, Z15, Z16, Z17, Z18, Z19, ↓reduceIte, Nat.reduceEqDiff, Z1a, Z1b, Z1c, Z1d, Z1e, Z1f, Z1g, Z1h, Z1i, Z1j, Z1k, Z1l, Z1m, Z1n, Z1o, Z1p, Z1q, Z1r, Z1s, Z1t, Z1u, Z1v, Z1w, Z1x, Z1y, Z1z, Z20, Z21, Z22, Z23, Z24, Z25, Z26, Z27, Z28, Z29, Z2a, List.getElem?_toArray, List.getElem?_cons_zero, List.getElem?_cons_succ, s_cell ownH.rd.ones lH]
  obtain ⟨h19, hh⟩ : ∃ h19, h19 = (h18.push (.cells [Value.int .i64 0, .int .i64 0, .string ⟨#[]⟩, .slice none 0 0, .slice none 0 0] 5 false true)).set h18.size (.cells csH 5 false true) := ⟨_, rfl⟩
  have ext19 : Ext h18 h19 := by rw [hh]; exact Ext.cell
  have sz19 : h19.size = h18.size + 1 := by rw [hh]; rfl
  have atH19 : h19.at_ h18.size = .cells csH 5 false true := by rw [hh]; exact set_same
  rw [← hh]
  clear hh
  have atW19 := (ext19.old h4.size (by omega)).trans atW18
  have atG19 := (ext19.old h8.size (by omega)).trans atG18
  have ownW19 := ownW18.ext (fun n hn => by have := (frW n hn).2; omega) ext19
  have ownG19 := ownG18.ext (fun n hn => by have := (frG n hn).2; omega) ext19
  have ownH19 := ownH.ext (fun n hn => (frH n hn).2) ext19
  simp -dsimp -implicitDefEqProofs only [Z00, Z01, Z02, Z03, Z04, Z05, Z06, Z07, Z08, Z09, Z0a, Z0b, Z0c, Z0d, Z0e, Z0f, Z0g, Z0h, Z0i, Z0j, Z0k, Z0l, Z0m, Z0n, Z0o, Z0p, Z0q, Z0r, Z0s, Z0t, Z0u, Z0v, Z0w, Z0x, Z0y, Z0z, Z10, Z11, Z12, Z13, Z14, Z15, Z16, Z17, Z18, Z19, ↓reduceIte, Nat.reduceEqDiff, Z1a, Z1b, Z1c, Z1d, Z1e, Z1f, Z1g, Z1h, Z1i, Z1j, Z1k, Z1l, Z1m, Z1n, Z1o, Z1p, Z1q, Z1r, Z1s, Z1t, Z1u, Z1v, Z1w, Z1x, Z1y, Z1z, Z20, Z21, Z22, Z23, Z24, Z25, Z26, Z27, Z28, Z29, Z2a, atH19, atW19, ld5 lH, ld5 lW]
  refine callT_of (c11 _ _ h19 _ _ csH csW ownH19.rd ownW19.rd (fun n hn => by have := (frH n hn).2; omega) (fun n hn => by have := (frW n hn).2; omega) hent) ?_
  rintro r h20 - ⟨ext20, b4, rfl, hb4⟩
  have hb4 := hb4.2 rfl
  subst hb4
  have z15 := ext20.size
  have atG20 := (ext20.old h8.size (by omega)).trans atG19
  have ownG20 := ownG19.ext (fun n hn => by have := (frG n hn).2; omega) ext20
  simp -dsimp -implicitDefEqProofs only [Z00, Z01, Z02, Z03, Z04, Z05, Z06, Z07, Z08, Z09, Z0a, Z0b, Z0c, Z0d, Z0e, Z0f, Z0g, Z0h, Z0i, Z0j, Z0k, Z0l, Z0m, Z0n, Z0o, Z0p, Z0q, Z0r, Z0s, Z0t, Z0u, Z0v, Z0w, Z0x, Z0y, Z0z, Z10, Z11, Z12, Z13, Z14, Z15, Z16, Z17, Z18, Z19, ↓reduceIte, Nat.reduceEqDiff, Z1a, Z1b, Z1c, Z1d, Z1e, Z1f, Z1g, Z1h, Z1i, Z1j, Z1k, Z1l, Z1m, Z1n, Z1o, Z1p, Z1q, Z1r, Z1s, Z1t, Z1u, Z1v, Z1w, Z1x, Z1y, Z1z, Z20, Z21, Z22, Z23, Z24, Z25, Z26, Z27, Z28, Z29, Z2a, Bool.not_true, bne_self_eq_false, Bool.false_eq_true, atG20, ld5 lG]
  refine callT_of (c13 ownG20.rd (fun n hn => by have := (frG n hn).2; omega) (by omega) (by omega)) ?_
  rintro r h21 - ⟨ext21, rfl⟩
  simp -dsimp -implicitDefEqProofs only [Z00, Z01, Z02, Z03, Z04, Z05, Z06, Z07, Z08, Z09, Z0a, Z0b, Z0c, Z0d, Z0e, Z0f, Z0g, Z0h, Z0i, Z0j, Z0k, Z0l, Z0m, Z0n, Z0o, Z0p, Z0q, Z0r, Z0s, Z0t, Z0u, Z0v, Z0w, Z0x, Z0y, Z0z, Z10, Z11, Z12, Z13, Z14, Z15, Z16, Z17, Z18, Z19, ↓reduceIte, Nat.reduceEqDiff, Z1a, Z1b, Z1c, Z1d, Z1e, Z1f, Z1g, Z1h, Z1i, Z1j, Z1k, Z1l, Z1m, Z1n, Z1o, Z1p, Z1q, Z1r, Z1s, Z1t, Z1u, Z1v, Z1w, Z1x, Z1y, Z1z, Z20, Z21, Z22, Z23, Z24, Z25, Z26, Z27, Z28, Z29, Z2a, hk2, bne_self_eq_false, Bool.false_eq_true, retK, resC, resV]

end Go.Proofs.Ytdfmdclfnhgjiaa.Can
