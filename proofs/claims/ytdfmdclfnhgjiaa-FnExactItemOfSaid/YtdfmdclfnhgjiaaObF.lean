/- Objects of the documents: the reference's copy.
   Conditions: those that each law names. -/
import Derived.Test.YtdfmdclfnhgjiaaCanU
import Derived.Test.YtdfmdclfnhgjiaaObE
set_option linter.unusedVariables false
set_option linter.unusedSimpArgs false
namespace Go.Proofs.Ytdfmdclfnhgjiaa.Can
open Go

theorem wid_mem {kd : List OT} {d : D} (hd : d ∈ encL kd) : wid d = 5 := by
  rw [encL_eq] at hd
  obtain ⟨o, _, rfl⟩ := List.mem_map.1 hd
  exact wid_obj o

theorem own_obj {h : CH} {a b : Int} {t : ByteArray} {ks : List ByteArray} {kd : List OT} {r r2 : Value} {F G : List Nat} (o1 : Own h (encK ks) [r] F) (o2 : Own h (.arr 5 (encL kd)) [r2] G) (hd : ∀ n ∈ F, n ∉ G) :
    Own h (encO (.mk a b t ks kd)) [.int .i64 a, .int .i64 b, .string t, r, r2] (F ++ G) := by
  simp only [encO, Own, Owns]
  refine ⟨[.int .i64 a], [.int .i64 b, .string t, r, r2], [], F ++ G, rfl, rfl, by simp, ⟨rfl, rfl, rfl⟩, [.int .i64 b], [.string t, r, r2], [], F ++ G, rfl, rfl, by simp, ⟨rfl, rfl, rfl⟩,
    [.string t], [r, r2], [], F ++ G, rfl, rfl, by simp, ⟨rfl, rfl, rfl⟩, [r], [r2], F, G, rfl, rfl, hd, o1, [r2], [], G, [], rfl, by simp, by simp, ?_, rfl, rfl⟩
  simpa only [Own] using o2

theorem full_keys {h : CH} {S : Nat → Prop} {ks : List ByteArray} {xs : List Value} {v : Value} {B : List Nat} {len : Nat} (g : Full h 1 v len xs B) (hl : len = ks.length) {h0 : CH} (hx : Rds h0 S (ks.map encT) xs) : Own h (encK ks) [v] B := by
  have e : xs = ks.map Value.string := by
    have : ks.map encT = (ks.map Value.string).map .val := by simp [encT, Function.comp_def]
    rw [this] at hx
    exact hx.vals
  subst e
  rw [encK_vals]
  have := Full.own (F := []) (ds := (ks.map Value.string).map .val) (k := 1) (by simpa [hl] using g) (Owns.vals (str_ones ks)) (by simp [wid]) (by simp)
  simpa using this

def C32 (o : OT) : Prop := ∀ (h : CH) (S : Nat → Prop) (cs : List Value), Rd h S (encO o) cs → (∀ n, S n → n < h.size) → smO o →
    callW Try.prog 32 [.agg cs.toArray] h fun r h' => Ext h h' ∧ ∃ cs' F, r = .agg cs'.toArray ∧ Own h' (encO o) cs' F ∧ Fresh h h' F

theorem c32_of {o : OT} (hk : ∀ a b t ks kd, o = .mk a b t ks kd → ∀ o ∈ kd, C32 o) : C32 o := by
  intro h S cs hs hS hz
  obtain ⟨a, b, t, ks, kd⟩ := o
  have ih := hk a b t ks kd rfl
  refine callW_of (wf _) Try.func32 m32_ok (by simp [m32]) ?_
  obtain ⟨vk, vl, rfl, hk, hd⟩ := hs.obj
  simp only [smO] at hz
  obtain ⟨z2, z4, z5⟩ := hz
  simp -dsimp -implicitDefEqProofs only [Z00, Z01, Z02, Z03, Z04, Z05, Z06, Z07, Z08, Z09, Z0a, Z0b, Z0c, Z0d, Z0e, Z0f, Z0g, Z0h, Z0i, Z0j, Z0k, Z0l, Z0m, Z0n, Z0o, Z0p, Z0q, Z0r, Z0s, Z0t, Z0u, Z0v, Z0w, Z0x, Z0y, Z0z, Z10, Z11, Z12, Z13, Z14, Z15, Z16, Z17, Z18, Z19, ↓reduceIte, Nat.reduceEqDiff, Z1a, Z1b, Z1c, Z1d, Z1e, Z1f, Z1g, Z1h, Z1i, Z1j, Z1k, Z1l, Z1m, Z1n, Z1o, Z1p, Z1q, Z1r, Z1s, Z1t, Z1u, Z1v, Z1w, Z1x, Z1y, Z1z, Z20, Z21, Z22, Z23, Z24, Z25, Z26, Z27, Z28, Z29, Z2a, m32]
  rw [s_box hs.ones]
  simp -dsimp -implicitDefEqProofs only [Z00, Z01, Z02, Z03, Z04, Z05, Z06, Z07, Z08, Z09, Z0a, Z0b, Z0c, Z0d, Z0e, Z0f, Z0g, Z0h, Z0i, Z0j, Z0k, Z0l, Z0m, Z0n, Z0o, Z0p, Z0q, Z0r, Z0s, Z0t, Z0u, Z0v, Z0w, Z0x, Z0y, Z0z, Z10, Z11, Z12, Z13, Z14, Z15, Z16, Z17, Z18, Z19, ↓reduceIte, Nat.reduceEqDiff, Z1a, Z1b, Z1c, Z1d, Z1e, Z1f, Z1g, Z1h, Z1i, Z1j, Z1k, Z1l, Z1m, Z1n, Z1o, Z1p, Z1q, Z1r, Z1s, Z1t, Z1u, Z1v, Z1w, Z1x, Z1y, Z1z, Z20, Z21, Z22, Z23, Z24, Z25, Z26, Z27, Z28, Z29, Z2a, s_blds0]
  have hh : ∃ h3, h3 = ((h.push (.cells [Value.int .i64 a, .int .i64 b, .string t, vk, vl] 5 false true)).push (.cells [Value.int .i64 0, .int .i64 0, .string ⟨#[]⟩, .slice none 0 0, .slice none 0 0] 5 false true)).push (.cells [] 1 false true) := ⟨_, rfl⟩
  obtain ⟨h3, hh⟩ := hh
  have ext3 : Ext h h3 := by rw [hh]; exact ((Ext.push _ _).trans (Ext.push _ _)).trans (Ext.push _ _)
  have sz3 : h3.size = h.size + 3 := by rw [hh]; rfl
  have at1 : h3.at_ h.size = .cells [Value.int .i64 a, .int .i64 b, .string t, vk, vl] 5 false true := by
    rw [hh, push_old (by simp only [push_size]; omega), push_old (by simp only [push_size]; omega), push_new]
  have at2 : h3.at_ (h.size + 1) = .cells [Value.int .i64 0, .int .i64 0, .string ⟨#[]⟩, .slice none 0 0, .slice none 0 0] 5 false true := by
    rw [hh, push_old (by simp only [push_size]; omega)]; exact push_new
  have at3 : h3.at_ (h.size + 1 + 1) = .cells [] 1 false true := by
    rw [hh]; exact push_new
  rw [← hh]
  clear hh
  simp -dsimp -implicitDefEqProofs only [Z00, Z01, Z02, Z03, Z04, Z05, Z06, Z07, Z08, Z09, Z0a, Z0b, Z0c, Z0d, Z0e, Z0f, Z0g, Z0h, Z0i, Z0j, Z0k, Z0l, Z0m, Z0n, Z0o, Z0p, Z0q, Z0r, Z0s, Z0t, Z0u, Z0v, Z0w, Z0x, Z0y, Z0z, Z10, Z11, Z12, Z13, Z14, Z15, Z16, Z17, Z18, Z19, ↓reduceIte, Nat.reduceEqDiff, Z1a, Z1b, Z1c, Z1d, Z1e, Z1f, Z1g, Z1h, Z1i, Z1j, Z1k, Z1l, Z1m, Z1n, Z1o, Z1p, Z1q, Z1r, Z1s, Z1t, Z1u, Z1v, Z1w, Z1x, Z1y, Z1z, Z20, Z21, Z22, Z23, Z24, Z25, Z26, Z27, Z28, Z29, Z2a, at1, Nat.zero_add, List.getElem?_cons_succ, List.getElem?_cons_zero]
  obtain ⟨xs, hx1, hx2, hx3⟩ := src_rd (hk.ext hS ext3)
  simp only [List.length_map] at hx1 hx3
  refine app_full (.inr ⟨h.size + 1 + 1, false, rfl, at3, rfl, rfl, by omega⟩) hx1 hx3 (by omega) (by omega) ?_
  intro v4 h4 B4 s1 s2 hk4 hB4 full4
  have one4 := full4.one
  have lt4 := full4.lt
  have own4 := full_keys full4 (Nat.zero_add _) hx2
  have at1 := (hk4 _ (by omega) (by simp only [List.mem_singleton]; omega)).trans at1
  have at2 := (hk4 _ (by omega) (by simp only [List.mem_singleton]; omega)).trans at2
  have ge4 : ∀ n ∈ B4, h.size + 2 ≤ n := fun n hn => by
    rcases hB4 n hn with e | e
    · simp only [List.mem_singleton] at e; omega
    · omega
  have ext4 : Ext h h4 := ⟨by omega, fun n hn => (hk4 n (by omega) (by simp only [List.mem_singleton]; omega)).trans (ext3.old n hn)⟩
  simp -dsimp -implicitDefEqProofs only [Z00, Z01, Z02, Z03, Z04, Z05, Z06, Z07, Z08, Z09, Z0a, Z0b, Z0c, Z0d, Z0e, Z0f, Z0g, Z0h, Z0i, Z0j, Z0k, Z0l, Z0m, Z0n, Z0o, Z0p, Z0q, Z0r, Z0s, Z0t, Z0u, Z0v, Z0w, Z0x, Z0y, Z0z, Z10, Z11, Z12, Z13, Z14, Z15, Z16, Z17, Z18, Z19, ↓reduceIte, Nat.reduceEqDiff, Z1a, Z1b, Z1c, Z1d, Z1e, Z1f, Z1g, Z1h, Z1i, Z1j, Z1k, Z1l, Z1m, Z1n, Z1o, Z1p, Z1q, Z1r, Z1s, Z1t, Z1u, Z1v, Z1w, Z1x, Z1y, Z1z, Z20, Z21, Z22, Z23, Z24, Z25, Z26, Z27, Z28, Z29, Z2a, at1, Nat.zero_add, List.getElem?_cons_succ, List.getElem?_cons_zero, st_one one4, List.length_cons, List.length_nil, Nat.reduceAdd, Nat.reduceLT, List.set_cons_zero, List.set_cons_succ, s_blds0]
  have hh : ∃ h5, h5 = (h4.set h.size (.cells [Value.int .i64 a, .int .i64 b, .string t, v4, vl] 5 false true)).push (.cells [] 5 false true) := ⟨_, rfl⟩
  obtain ⟨h5, hh⟩ := hh
  have sz5 : h5.size = h4.size + 1 := by rw [hh]; rfl
  have ext5 : Ext h h5 := by rw [hh]; exact (ext4.set (Nat.le_refl _)).trans (Ext.push _ _)
  have at1 : h5.at_ h.size = .cells [Value.int .i64 a, .int .i64 b, .string t, v4, vl] 5 false true := by
    rw [hh, push_old (by rw [set_size]; omega)]; exact set_same
  have at2 : h5.at_ (h.size + 1) = .cells [Value.int .i64 0, .int .i64 0, .string ⟨#[]⟩, .slice none 0 0, .slice none 0 0] 5 false true := by
    rw [hh, push_old (by rw [set_size]; omega), set_other (by omega)]; exact at2
  have at3 : h5.at_ h4.size = .cells [] 5 false true := by
    rw [hh]; exact push_new
  have own4 : Own h5 (encK ks) [v4] B4 := own4.keep fun n hn => by
    have := ge4 n hn
    have := lt4 n hn
    rw [hh, push_old (by rw [set_size]; omega), set_other (by omega)]
  rw [← hh]
  clear hh
  have hel := hd.slice
  obtain ⟨al, capl, rfl, hel⟩ := hel
  simp only [encL_len] at hel at1 ⊢
  refine loopT_of (wpC_loop (fun ρ h6 => ∃ (i : Nat) (v : Value) (cs : List Value) (B F : List Nat), Ext h h6 ∧ h5.size ≤ h6.size ∧ (∀ n, n < h4.size → h6.at_ n = h5.at_ n) ∧ Full h6 5 v i cs B ∧ Owns h6 (encL (kd.take i)) cs F ∧ (∀ n ∈ B, h4.size ≤ n ∧ n ∉ F) ∧ (∀ n ∈ F, h4.size ≤ n ∧ n < h6.size) ∧
      i ≤ kd.length ∧ ρ 1 = .pointer (some ⟨h.size, 0, none⟩) ∧ ρ 2 = .pointer (some ⟨h.size + 1, 0, none⟩) ∧ ρ 3 = v ∧ ρ 4 = .int .i64 i)
      (fun ρ h1 => kd.length - intOf (ρ 4)) ⟨0, _, [], [h4.size], [], ext5, Nat.le_refl _, fun _ _ => rfl, .inr ⟨h4.size, false, rfl, at3, rfl, rfl, by omega⟩, by simp [encL, Owns], by simp, by simp, Nat.zero_le _, ?_, ?_, ?_, ?_⟩ ?_)
  · simp -dsimp -implicitDefEqProofs only [Z00, Z01, Z02, Z03, Z04, Z05, Z06, Z07, Z08, Z09, Z0a, Z0b, Z0c, Z0d, Z0e, Z0f, Z0g, Z0h, Z0i, Z0j, Z0k, Z0l, Z0m, Z0n, Z0o, Z0p, Z0q, Z0r, Z0s, Z0t, Z0u, Z0v, Z0w, Z0x, Z0y, Z0z, Z10, Z11, Z12, Z13, Z14, Z15, Z16, Z17, Z18, Z19, ↓reduceIte, Nat.reduceEqDiff, Z1a, Z1b, Z1c, Z1d, Z1e, Z1f, Z1g, Z1h, Z1i, Z1j, Z1k, Z1l, Z1m, Z1n, Z1o, Z1p, Z1q, Z1r, Z1s, Z1t, Z1u, Z1v, Z1w, Z1x, Z1y, Z1z, Z20, Z21, Z22, Z23, Z24, Z25, Z26, Z27, Z28, Z29, Z2a]
  · simp -dsimp -implicitDefEqProofs only [Z00, Z01, Z02, Z03, Z04, Z05, Z06, Z07, Z08, Z09, Z0a, Z0b, Z0c, Z0d, Z0e, Z0f, Z0g, Z0h, Z0i, Z0j, Z0k, Z0l, Z0m, Z0n, Z0o, Z0p, Z0q, Z0r, Z0s, Z0t, Z0u, Z0v, Z0w, Z0x, Z0y, Z0z, Z10, Z11, Z12, Z13, Z14, Z15, Z16, Z17, Z18, Z19, ↓reduceIte, Nat.reduceEqDiff, Z1a, Z1b, Z1c, Z1d, Z1e, Z1f, Z1g, Z1h, Z1i, Z1j, Z1k, Z1l, Z1m, Z1n, Z1o, Z1p, Z1q, Z1r, Z1s, Z1t, Z1u, Z1v, Z1w, Z1x, Z1y, Z1z, Z20, Z21, Z22, Z23, Z24, Z25, Z26, Z27, Z28, Z29, Z2a]
  · simp -dsimp -implicitDefEqProofs only [Z00, Z01, Z02, Z03, Z04, Z05, Z06, Z07, Z08, Z09, Z0a, Z0b, Z0c, Z0d, Z0e, Z0f, Z0g, Z0h, Z0i, Z0j, Z0k, Z0l, Z0m, Z0n, Z0o, Z0p, Z0q, Z0r, Z0s, Z0t, Z0u, Z0v, Z0w, Z0x, Z0y, Z0z, Z10, Z11, Z12, Z13, Z14, Z15, Z16, Z17, Z18, Z19, ↓reduceIte, Nat.reduceEqDiff, Z1a, Z1b, Z1c, Z1d, Z1e, Z1f, Z1g, Z1h, Z1i, Z1j, Z1k, Z1l, Z1m, Z1n, Z1o, Z1p, Z1q, Z1r, Z1s, Z1t, Z1u, Z1v, Z1w, Z1x, Z1y, Z1z, Z20, Z21, Z22, Z23, Z24, Z25, Z26, Z27, Z28, Z29, Z2a]
  · simp -dsimp -implicitDefEqProofs only [Z00, Z01, Z02, Z03, Z04, Z05, Z06, Z07, Z08, Z09, Z0a, Z0b, Z0c, Z0d, Z0e, Z0f, Z0g, Z0h, Z0i, Z0j, Z0k, Z0l, Z0m, Z0n, Z0o, Z0p, Z0q, Z0r, Z0s, Z0t, Z0u, Z0v, Z0w, Z0x, Z0y, Z0z, Z10, Z11, Z12, Z13, Z14, Z15, Z16, Z17, Z18, Z19, ↓reduceIte, Nat.reduceEqDiff, Z1a, Z1b, Z1c, Z1d, Z1e, Z1f, Z1g, Z1h, Z1i, Z1j, Z1k, Z1l, Z1m, Z1n, Z1o, Z1p, Z1q, Z1r, Z1s, Z1t, Z1u, Z1v, Z1w, Z1x, Z1y, Z1z, Z20, Z21, Z22, Z23, Z24, Z25, Z26, Z27, Z28, Z29, Z2a]; rfl
  rintro ρ h6 ⟨i, v, cs, B, F, ext6, sz6, keep6, full6, own6, hB, hF, hi, e1, e2, e3, e4⟩
  have lt6 := full6.lt
  have bt1 := (keep6 _ (by omega)).trans at1
  have bt2 := (keep6 _ (by omega)).trans at2
  simp -dsimp -implicitDefEqProofs only [Z00, Z01, Z02, Z03, Z04, Z05, Z06, Z07, Z08, Z09, Z0a, Z0b, Z0c, Z0d, Z0e, Z0f, Z0g, Z0h, Z0i, Z0j, Z0k, Z0l, Z0m, Z0n, Z0o, Z0p, Z0q, Z0r, Z0s, Z0t, Z0u, Z0v, Z0w, Z0x, Z0y, Z0z, Z10, Z11, Z12, Z13, Z14, Z15, Z16, Z17, Z18, Z19, ↓reduceIte, Nat.reduceEqDiff, Z1a, Z1b, Z1c, Z1d, Z1e, Z1f, Z1g, Z1h, Z1i, Z1j, Z1k, Z1l, Z1m, Z1n, Z1o, Z1p, Z1q, Z1r, Z1s, Z1t, Z1u, Z1v, Z1w, Z1x, Z1y, Z1z, Z20, Z21, Z22, Z23, Z24, Z25, Z26, Z27, Z28, Z29, Z2a, e1, e2, e3, e4, bt1, Nat.zero_add, List.getElem?_cons_succ, List.getElem?_cons_zero]
  refine ifW_intro (fun hc => ?_) (fun hc => ?_)
  · simp only [decide_eq_true_eq] at hc
    have hi2 : i < kd.length := by omega
    obtain ⟨n, o, cc, opn, rw, rfl, hSn, hat, hlen, hcs⟩ := hel i hi2
    have hcell := hcs i (encO kd[i]) (by simp [encL_eq, hi2])
    have hat6 := (ext6.old n (hS n hSn)).trans hat
    have room : o + i * 5 + 5 ≤ cc.length := by omega
    simp -dsimp -implicitDefEqProofs only [Z00, Z01, Z02, Z03, Z04, Z05, Z06, Z07, Z08, Z09, Z0a, Z0b, Z0c, Z0d, Z0e, Z0f, Z0g, Z0h, Z0i, Z0j, Z0k, Z0l, Z0m, Z0n, Z0o, Z0p, Z0q, Z0r, Z0s, Z0t, Z0u, Z0v, Z0w, Z0x, Z0y, Z0z, Z10, Z11, Z12, Z13, Z14, Z15, Z16, Z17, Z18, Z19, ↓reduceIte, Nat.reduceEqDiff, Z1a, Z1b, Z1c, Z1d, Z1e, Z1f, Z1g, Z1h, Z1i, Z1j, Z1k, Z1l, Z1m, Z1n, Z1o, Z1p, Z1q, Z1r, Z1s, Z1t, Z1u, Z1v, Z1w, Z1x, Z1y, Z1z, Z20, Z21, Z22, Z23, Z24, Z25, Z26, Z27, Z28, Z29, Z2a, e1, e2, e3, e4, bt1, Nat.zero_add, List.getElem?_cons_succ, List.getElem?_cons_zero, s_iaddr (Int.natCast_nonneg i) hc, s_loadA hat6 room, Int.toNat_natCast]
    refine callT_of (ih kd[i] (List.getElem_mem hi2) h6 S _ (hcell.ext hS ext6) (ext6.lt hS) (smL_mem z5 _ (List.getElem_mem hi2))) ?_
    rintro r h7 - ⟨ext7, cs', G, rfl, hown, hG⟩
    have hl5 : cs'.length = 5 := hown.len.trans (wid_obj _)
    have hone : cs'.all (·.oneCell') = true := hown.rd.ones
    have s7 := ext7.size
    have hcells : (Value.agg cs'.toArray).cells.toList = cs' := rfl
    simp -dsimp -implicitDefEqProofs only [Z00, Z01, Z02, Z03, Z04, Z05, Z06, Z07, Z08, Z09, Z0a, Z0b, Z0c, Z0d, Z0e, Z0f, Z0g, Z0h, Z0i, Z0j, Z0k, Z0l, Z0m, Z0n, Z0o, Z0p, Z0q, Z0r, Z0s, Z0t, Z0u, Z0v, Z0w, Z0x, Z0y, Z0z, Z10, Z11, Z12, Z13, Z14, Z15, Z16, Z17, Z18, Z19, ↓reduceIte, Nat.reduceEqDiff, Z1a, Z1b, Z1c, Z1d, Z1e, Z1f, Z1g, Z1h, Z1i, Z1j, Z1k, Z1l, Z1m, Z1n, Z1o, Z1p, Z1q, Z1r, Z1s, Z1t, Z1u, Z1v, Z1w, Z1x, Z1y, Z1z, Z20, Z21, Z22, Z23, Z24, Z25, Z26, Z27, Z28, Z29, Z2a, e1, e2, e3, e4]
    rw [s_blds1 (k := 5) (z := [.int .i64 0, .int .i64 0, .string ⟨#[]⟩, .slice none 0 0, .slice none 0 0]) rfl (by simpa [Value.cells] using hl5) (by simpa [Value.cells] using hone), hcells]
    have hh : ∃ h8, h8 = h7.push (.cells cs' 5 false true) := ⟨_, rfl⟩
    obtain ⟨h8, hh⟩ := hh
    have ext8 : Ext h7 h8 := by rw [hh]; exact Ext.push _ _
    have sz8 : h8.size = h7.size + 1 := by rw [hh]; rfl
    have at8 : h8.at_ h7.size = .cells cs' 5 false true := by rw [hh]; exact push_new
    rw [← hh]
    clear hh
    simp -dsimp -implicitDefEqProofs only [Z00, Z01, Z02, Z03, Z04, Z05, Z06, Z07, Z08, Z09, Z0a, Z0b, Z0c, Z0d, Z0e, Z0f, Z0g, Z0h, Z0i, Z0j, Z0k, Z0l, Z0m, Z0n, Z0o, Z0p, Z0q, Z0r, Z0s, Z0t, Z0u, Z0v, Z0w, Z0x, Z0y, Z0z, Z10, Z11, Z12, Z13, Z14, Z15, Z16, Z17, Z18, Z19, ↓reduceIte, Nat.reduceEqDiff, Z1a, Z1b, Z1c, Z1d, Z1e, Z1f, Z1g, Z1h, Z1i, Z1j, Z1k, Z1l, Z1m, Z1n, Z1o, Z1p, Z1q, Z1r, Z1s, Z1t, Z1u, Z1v, Z1w, Z1x, Z1y, Z1z, Z20, Z21, Z22, Z23, Z24, Z25, Z26, Z27, Z28, Z29, Z2a, e1, e2, e3, e4]
    have full8 : Full h8 5 v i cs B := full6.keep (by omega) fun n hn => (ext8.old n (by have := lt6 n hn; omega)).trans (ext7.old n (lt6 n hn))
    refine app_full full8 (src_one at8 hl5) (by omega) (by omega) (by omega) ?_
    intro v9 h9 B9 s91 s92 hk9 hB9 full9
    simp -dsimp -implicitDefEqProofs only [Z00, Z01, Z02, Z03, Z04, Z05, Z06, Z07, Z08, Z09, Z0a, Z0b, Z0c, Z0d, Z0e, Z0f, Z0g, Z0h, Z0i, Z0j, Z0k, Z0l, Z0m, Z0n, Z0o, Z0p, Z0q, Z0r, Z0s, Z0t, Z0u, Z0v, Z0w, Z0x, Z0y, Z0z, Z10, Z11, Z12, Z13, Z14, Z15, Z16, Z17, Z18, Z19, ↓reduceIte, Nat.reduceEqDiff, Z1a, Z1b, Z1c, Z1d, Z1e, Z1f, Z1g, Z1h, Z1i, Z1j, Z1k, Z1l, Z1m, Z1n, Z1o, Z1p, Z1q, Z1r, Z1s, Z1t, Z1u, Z1v, Z1w, Z1x, Z1y, Z1z, Z20, Z21, Z22, Z23, Z24, Z25, Z26, Z27, Z28, Z29, Z2a, e1, e2, e3, e4]
    rw [wrap64 (by omega) (by omega)]
    have k9 : ∀ n, n < h6.size → n ∉ B → h9.at_ n = h6.at_ n := fun n hn hnB => (hk9 n (by omega) hnB).trans ((ext8.old n (by omega)).trans (ext7.old n hn))
    refine ⟨⟨i + 1, v9, cs ++ cs', B9, F ++ G, ⟨by have := ext6.size; omega, fun n hn => ?_⟩, by omega, fun n hn => ?_, full9, ?_, ?_, ?_, hi2, trivial, trivial, rfl, rfl⟩, ?_⟩
    · have := ext6.size
      exact (k9 n (by omega) (fun hnB => by have := (hB n hnB).1; omega)).trans (ext6.old n hn)
    · exact (k9 n (by omega) (fun hnB => by have := (hB n hnB).1; omega)).trans (keep6 n hn)
    · rw [List.take_succ_eq_append_getElem hi2, encL_eq, List.map_append, ← encL_eq]
      refine Owns.snoc (hown.keep fun m hm => ?_) (own6.keep fun m hm => ?_) ?_
      · have := hG m hm
        exact (hk9 m (by omega) (fun hmB => by have := lt6 m hmB; omega)).trans (ext8.old m this.2)
      · exact k9 m (hF m hm).2 (fun hmB => (hB m hmB).2 hm)
      · intro m hm hm2
        have := (hG m hm2).1
        have := (hF m hm).2
        omega
    · intro m hm
      rcases hB9 m hm with hm | rfl
      · refine ⟨(hB m hm).1, fun hmm => ?_⟩
        rcases List.mem_append.1 hmm with hmm | hmm
        · exact (hB m hm).2 hmm
        · have := (hG m hmm).1
          have := lt6 m hm
          omega
      · refine ⟨by omega, fun hmm => ?_⟩
        rcases List.mem_append.1 hmm with hmm | hmm
        · have := (hF _ hmm).2; omega
        · have := (hG _ hmm).2; omega
    · intro m hm
      rcases List.mem_append.1 hm with hm | hm
      · have := hF m hm; omega
      · have := hG m hm; omega
    · simp only [intOf]; omega
  · simp only [decide_eq_false_iff_not] at hc
    have : i = kd.length := by omega
    subst this
    rw [List.take_length] at own6
    have one6 := full6.one
    have own4 : Own h6 (encK ks) [v4] B4 := own4.keep fun n hn => keep6 n (lt4 n hn)
    have ones : ([Value.int .i64 a, .int .i64 b, .string t, v4, v] : List Value).all (·.oneCell') = true := by
      simp only [List.all_cons, List.all_nil, one4, one6]; rfl
    have own2 : Own h6 (.arr 5 (encL kd)) [v] (B ++ F) := Full.own (by rw [encL_len]; exact full6) own6 (fun d hd => wid_mem hd) (fun n hn => (hB n hn).2)
    simp -dsimp -implicitDefEqProofs only [Z00, Z01, Z02, Z03, Z04, Z05, Z06, Z07, Z08, Z09, Z0a, Z0b, Z0c, Z0d, Z0e, Z0f, Z0g, Z0h, Z0i, Z0j, Z0k, Z0l, Z0m, Z0n, Z0o, Z0p, Z0q, Z0r, Z0s, Z0t, Z0u, Z0v, Z0w, Z0x, Z0y, Z0z, Z10, Z11, Z12, Z13, Z14, Z15, Z16, Z17, Z18, Z19, ↓reduceIte, Nat.reduceEqDiff, Z1a, Z1b, Z1c, Z1d, Z1e, Z1f, Z1g, Z1h, Z1i, Z1j, Z1k, Z1l, Z1m, Z1n, Z1o, Z1p, Z1q, Z1r, Z1s, Z1t, Z1u, Z1v, Z1w, Z1x, Z1y, Z1z, Z20, Z21, Z22, Z23, Z24, Z25, Z26, Z27, Z28, Z29, Z2a, e1, e2, e3, e4, bt1, bt2, set_other (show h.size + 1 ≠ h.size by omega), Nat.zero_add, List.getElem?_cons_succ, List.getElem?_cons_zero, st_one one6, List.length_cons, List.length_nil, Nat.reduceAdd, Nat.reduceLT, Nat.reduceLeDiff, Nat.le_refl, List.set_cons_zero, List.set_cons_succ, set_set, ldA_cells, List.drop_zero, List.take_succ_cons, List.take_zero, st_all (m := 5) (c := [.int .i64 0, .int .i64 0, .string ⟨#[]⟩, .slice none 0 0, .slice none 0 0]) ones rfl rfl, retK, resC, resV]
    refine ⟨(ext6.set (by omega)).set (by omega), [Value.int .i64 a, .int .i64 b, .string t, v4, v], B4 ++ (B ++ F), rfl, ?_, ?_⟩
    · have keep : ∀ n, h.size + 2 ≤ n → ((h6.set h.size (.cells [Value.int .i64 a, .int .i64 b, .string t, v4, v] 5 false true)).set (h.size + 1) (.cells [Value.int .i64 a, .int .i64 b, .string t, v4, v] 5 false true)).at_ n = h6.at_ n :=
        fun n hn => (set_other (by omega)).trans (set_other (by omega))
      refine own_obj (own4.keep fun n hn => keep n (ge4 n hn)) (own2.keep fun n hn => keep n ?_) ?_
      · rcases List.mem_append.1 hn with hn | hn
        · have := (hB n hn).1; omega
        · have := (hF n hn).1; omega
      · intro n hn hn2
        have := lt4 n hn
        rcases List.mem_append.1 hn2 with hn2 | hn2
        · have := (hB n hn2).1; omega
        · have := (hF n hn2).1; omega
    · intro n hn
      simp only [set_size]
      rcases List.mem_append.1 hn with hn | hn
      · have := ge4 n hn
        have := lt4 n hn
        omega
      · rcases List.mem_append.1 hn with hn | hn
        · have := (hB n hn).1
          have := lt6 n hn
          omega
        · have := hF n hn; omega

theorem c32 (o : OT) : C32 o := c32_of fun a b t ks kd e o' ho => c32 o'
termination_by SizeOf.sizeOf o
decreasing_by
  subst e
  have := List.sizeOf_lt_of_mem ho
  simp only [OT.mk.sizeOf_spec]
  omega

end Go.Proofs.Ytdfmdclfnhgjiaa.Can
