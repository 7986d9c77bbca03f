/- Marks are set where they are to be set.
   Conditions: those that each law names. -/
import Derived.Test.YtdfmdclfnhgjiaaObJ
set_option linter.unusedVariables false
set_option linter.unusedSimpArgs false
namespace Go.Proofs.Ytdfmdclfnhgjiaa.Can
open Go

theorem Owns.split {h : CH} {ys : List D} : ∀ {xs : List D} {cs : List Value} {F : List Nat}, Owns h (xs ++ ys) cs F → ∃ c1 c2 F1 F2, cs = c1 ++ c2 ∧ F = F1 ++ F2 ∧ (∀ n ∈ F1, n ∉ F2) ∧ Owns h xs c1 F1 ∧ Owns h ys c2 F2
  | [], cs, F, g => ⟨[], cs, [], F, rfl, rfl, by simp, by simp [Owns], g⟩
  | x :: xs, cs, F, g => by
    simp only [List.cons_append, Owns] at g
    obtain ⟨c1, c2, F1, F2, rfl, rfl, hd, g1, g2⟩ := g
    obtain ⟨d1, d2, G1, G2, rfl, rfl, he, g3, g4⟩ := Owns.split g2
    refine ⟨c1 ++ d1, d2, F1 ++ G1, G2, by simp, by simp, ?_, ?_, g4⟩
    · intro n hn hm
      rcases List.mem_append.1 hn with hn | hn
      · exact hd n hn (List.mem_append_right _ hm)
      · exact he n hn hm
    · simp only [Owns]
      exact ⟨c1, d1, F1, G1, rfl, rfl, fun n hn hm => hd n hn (List.mem_append_left _ hm), g1, g3⟩
theorem Owns.join {h : CH} {ys : List D} {c2 : List Value} {F2 : List Nat} (g2 : Owns h ys c2 F2) : ∀ {xs : List D} {c1 : List Value} {F1 : List Nat}, Owns h xs c1 F1 → (∀ n ∈ F1, n ∉ F2) → Owns h (xs ++ ys) (c1 ++ c2) (F1 ++ F2)
  | [], c1, F1, g, hd => by
    simp only [Owns] at g
    obtain ⟨rfl, rfl⟩ := g
    exact g2
  | x :: xs, c1, F1, g, hd => by
    simp only [Owns] at g
    obtain ⟨d1, d2, G1, G2, rfl, rfl, he, g3, g4⟩ := g
    simp only [List.cons_append, Owns]
    refine ⟨d1, d2 ++ c2, G1, G2 ++ F2, by simp, by simp, ?_, g3, Owns.join g2 g4 (fun n hn => hd n (List.mem_append_right _ hn))⟩
    intro n hn hm
    rcases List.mem_append.1 hm with hm | hm
    · exact he n hn hm
    · exact hd n (List.mem_append_left _ hn) hm

theorem own_obj_inv {h : CH} {a b : Int} {t : ByteArray} {ks : List ByteArray} {kd : List OT} {cs : List Value} {F : List Nat} (g : Own h (encO (.mk a b t ks kd)) cs F) :
    ∃ vk vl Fk Fl, cs = [.int .i64 a, .int .i64 b, .string t, vk, vl] ∧ F = Fk ++ Fl ∧ (∀ n ∈ Fk, n ∉ Fl) ∧ Own h (encK ks) [vk] Fk ∧ Own h (.arr 5 (encL kd)) [vl] Fl := by
  have hr := g.rd.obj
  obtain ⟨wk, wl, rfl, _, _⟩ := hr
  have hg : Owns h [.val (.int .i64 a), .val (.int .i64 b), .val (.string t), encK ks, .arr 5 (encL kd)] [.int .i64 a, .int .i64 b, .string t, wk, wl] F := by
    simpa only [encO, Own] using g
  unfold Owns at hg
  obtain ⟨c1, r1, F1, R1, e1, rfl, _, g1, hg⟩ := hg
  unfold Owns at hg
  obtain ⟨c2, r2, F2, R2, rfl, rfl, _, g2, hg⟩ := hg
  unfold Owns at hg
  obtain ⟨c3, r3, F3, R3, rfl, rfl, _, g3, hg⟩ := hg
  unfold Owns at hg
  obtain ⟨c4, r4, F4, R4, rfl, rfl, d4, g4, hg⟩ := hg
  unfold Owns at hg
  obtain ⟨c5, r5, F5, R5, rfl, rfl, _, g5, hg⟩ := hg
  simp only [Owns] at hg
  obtain ⟨rfl, rfl⟩ := hg
  simp only [Own] at g1 g2 g3
  obtain ⟨rfl, _, rfl⟩ := g1
  obtain ⟨rfl, _, rfl⟩ := g2
  obtain ⟨rfl, _, rfl⟩ := g3
  have l4 := g4.len
  have l5 := g5.len
  simp only [encK, wid] at l4 l5
  obtain ⟨v4, rfl⟩ := List.length_eq_one_iff.1 l4
  obtain ⟨v5, rfl⟩ := List.length_eq_one_iff.1 l5
  exact ⟨v4, v5, F4, F5, by simpa using e1, by simp, by simpa using d4, g4, g5⟩

theorem wids_encL : ∀ l : List OT, wids (encL l) = l.length * 5
  | [] => rfl
  | o :: r => by simp only [encL, wids, wid_obj, wids_encL r, List.length_cons]; omega
theorem encL_append (l m : List OT) : encL (l ++ m) = encL l ++ encL m := by simp [encL_eq]

theorem mid_get {c1 l : List Value} {q j : Nat} (hq : c1.length = q) : (c1 ++ l)[q + j]? = l[j]? := by
  rw [← hq, List.getElem?_append_right (by omega)]
  congr 1; omega
theorem st_mid {h : CH} {L : Value → CH → Prop} {c1 tl : List Value} {a0 a1 a2 a3 a4 x : Value} {k n q j : Nat} {p : Bool} {u : Tok L} (hq : c1.length = q) (hx : x.oneCell' = true) (hj : j < 5) :
    stT 1 (q + j) x (.cells (c1 ++ a0 :: a1 :: a2 :: a3 :: a4 :: tl) k p true) n h L u = L undef (h.set n (.cells (c1 ++ (a0 :: a1 :: a2 :: a3 :: a4 :: tl).set j x) k p true)) := by
  rw [st_one hx (by simp; omega), ← hq, List.set_append, if_neg (by omega), Nat.add_sub_cancel_left]

def C40 (kd : List OT) : Prop := ∀ (h : CH) (v : Value) (F : List Nat) (k : Int), Own h (.arr 5 (encL kd)) [v] F → (∀ n ∈ F, n < h.size) → 0 ≤ k → k + cntL kd ≤ 4294967296 →
    callW Try.prog 40 [v, .int .i64 k] h fun r h' => Chg h h' F ∧ r = .int .i64 (k + cntL kd) ∧ Own h' (.arr 5 (encL (markL kd k))) [v] F

theorem c40_of {kd : List OT} (ih : ∀ o ∈ kd, C40 (kidsOf o)) : C40 kd := by
  intro h v F k hs hF k0 k1
  have hlc := len_cnt kd
  refine callW_of (wf _) Try.func40 m40_ok (by simp [m40]) ?_
  obtain ⟨a, cap, rfl, _⟩ := hs.rd.slice
  simp only [encL_len] at hs ⊢
  simp -dsimp -implicitDefEqProofs only [Z00, Z01, Z02, Z03, Z04, Z05, Z06, Z07, Z08, Z09, Z0a, Z0b, Z0c, Z0d, Z0e, Z0f, Z0g, Z0h, Z0i, Z0j, Z0k, Z0l, Z0m, Z0n, Z0o, Z0p, Z0q, Z0r, Z0s, Z0t, Z0u, Z0v, Z0w, Z0x, Z0y, Z0z, Z10, Z11, Z12, Z13, Z14, Z15, Z16, Z17, Z18, Z19, ↓reduceIte, Nat.reduceEqDiff, Z1a, Z1b, Z1c, Z1d, Z1e, Z1f, Z1g, Z1h, Z1i, Z1j, Z1k, Z1l, Z1m, Z1n, Z1o, Z1p, Z1q, Z1r, Z1s, Z1t, Z1u, Z1v, Z1w, Z1x, Z1y, Z1z, Z20, Z21, Z22, Z23, Z24, Z25, Z26, Z27, Z28, Z29, Z2a, m40]
  refine loopT_of (wpC_loop (fun ρ h1 => ∃ (i : Nat), Chg h h1 F ∧ Own h1 (.arr 5 (encL (markL (kd.take i) k ++ kd.drop i))) [.slice a kd.length cap] F ∧ i ≤ kd.length ∧ ρ 0 = .slice a kd.length cap ∧ ρ 1 = .int .i64 (k + cntL (kd.take i)) ∧ ρ 5 = .int .i64 i)
      (fun ρ h1 => kd.length - intOf (ρ 5)) ⟨0, ⟨Nat.le_refl _, fun _ _ _ => rfl⟩, by simpa [markL] using hs, Nat.zero_le _, ?_, ?_, ?_⟩ ?_)
  · simp -dsimp -implicitDefEqProofs only [Z00, Z01, Z02, Z03, Z04, Z05, Z06, Z07, Z08, Z09, Z0a, Z0b, Z0c, Z0d, Z0e, Z0f, Z0g, Z0h, Z0i, Z0j, Z0k, Z0l, Z0m, Z0n, Z0o, Z0p, Z0q, Z0r, Z0s, Z0t, Z0u, Z0v, Z0w, Z0x, Z0y, Z0z, Z10, Z11, Z12, Z13, Z14, Z15, Z16, Z17, Z18, Z19, ↓reduceIte, Nat.reduceEqDiff, Z1a, Z1b, Z1c, Z1d, Z1e, Z1f, Z1g, Z1h, Z1i, Z1j, Z1k, Z1l, Z1m, Z1n, Z1o, Z1p, Z1q, Z1r, Z1s, Z1t, Z1u, Z1v, Z1w, Z1x, Z1y, Z1z, Z20, Z21, Z22, Z23, Z24, Z25, Z26, Z27, Z28, Z29, Z2a]
  · simp -dsimp -implicitDefEqProofs only [Z00, Z01, Z02, Z03, Z04, Z05, Z06, Z07, Z08, Z09, Z0a, Z0b, Z0c, Z0d, Z0e, Z0f, Z0g, Z0h, Z0i, Z0j, Z0k, Z0l, Z0m, Z0n, Z0o, Z0p, Z0q, Z0r, Z0s, Z0t, Z0u, Z0v, Z0w, Z0x, Z0y, Z0z, Z10, Z11, Z12, Z13, Z14, Z15, Z16, Z17, Z18, Z19, ↓reduceIte, Nat.reduceEqDiff, Z1a, Z1b, Z1c, Z1d, Z1e, Z1f, Z1g, Z1h, Z1i, Z1j, Z1k, Z1l, Z1m, Z1n, Z1o, Z1p, Z1q, Z1r, Z1s, Z1t, Z1u, Z1v, Z1w, Z1x, Z1y, Z1z, Z20, Z21, Z22, Z23, Z24, Z25, Z26, Z27, Z28, Z29, Z2a]; simp [cntL]
  · simp -dsimp -implicitDefEqProofs only [Z00, Z01, Z02, Z03, Z04, Z05, Z06, Z07, Z08, Z09, Z0a, Z0b, Z0c, Z0d, Z0e, Z0f, Z0g, Z0h, Z0i, Z0j, Z0k, Z0l, Z0m, Z0n, Z0o, Z0p, Z0q, Z0r, Z0s, Z0t, Z0u, Z0v, Z0w, Z0x, Z0y, Z0z, Z10, Z11, Z12, Z13, Z14, Z15, Z16, Z17, Z18, Z19, ↓reduceIte, Nat.reduceEqDiff, Z1a, Z1b, Z1c, Z1d, Z1e, Z1f, Z1g, Z1h, Z1i, Z1j, Z1k, Z1l, Z1m, Z1n, Z1o, Z1p, Z1q, Z1r, Z1s, Z1t, Z1u, Z1v, Z1w, Z1x, Z1y, Z1z, Z20, Z21, Z22, Z23, Z24, Z25, Z26, Z27, Z28, Z29, Z2a]; rfl
  rintro ρ h1 ⟨i, hch, hown, hi, e0, e1, e5⟩
  simp -dsimp -implicitDefEqProofs only [Z00, Z01, Z02, Z03, Z04, Z05, Z06, Z07, Z08, Z09, Z0a, Z0b, Z0c, Z0d, Z0e, Z0f, Z0g, Z0h, Z0i, Z0j, Z0k, Z0l, Z0m, Z0n, Z0o, Z0p, Z0q, Z0r, Z0s, Z0t, Z0u, Z0v, Z0w, Z0x, Z0y, Z0z, Z10, Z11, Z12, Z13, Z14, Z15, Z16, Z17, Z18, Z19, ↓reduceIte, Nat.reduceEqDiff, Z1a, Z1b, Z1c, Z1d, Z1e, Z1f, Z1g, Z1h, Z1i, Z1j, Z1k, Z1l, Z1m, Z1n, Z1o, Z1p, Z1q, Z1r, Z1s, Z1t, Z1u, Z1v, Z1w, Z1x, Z1y, Z1z, Z20, Z21, Z22, Z23, Z24, Z25, Z26, Z27, Z28, Z29, Z2a, e0, e1, e5]
  refine ifW_intro (fun hc => ?_) (fun hc => ?_)
  · simp only [decide_eq_true_eq] at hc
    have hi2 : i < kd.length := by omega
    have hcnt := cnt_at kd i hi2
    have ihi := ih kd[i] (List.getElem_mem hi2)
    have htk : cntL (kd.take (i + 1)) = cntL (kd.take i) + cntE kd[i] := by
      rw [List.take_succ_eq_append_getElem hi2, cntL_append]; simp [cntL]
    have hmk : markL (kd.take (i + 1)) k ++ kd.drop (i + 1) = markL (kd.take i) k ++ (markE kd[i] (k + cntL (kd.take i)) :: kd.drop (i + 1)) := by
      rw [List.take_succ_eq_append_getElem hi2, markL_append]; simp [markL]
    have hdrop : kd.drop i = kd[i] :: kd.drop (i + 1) := List.drop_eq_getElem_cons hi2
    rw [hdrop] at hown
    revert hown hcnt ihi htk hmk
    generalize kd[i] = x
    obtain ⟨xa, xb, xt, ks, ds⟩ := x
    intro hown hcnt ihi htk hmk
    simp only [kidsOf] at ihi
    simp only [cntE] at hcnt htk
    simp only [markE] at hmk
    have hL1 : (markL (kd.take i) k).length = i := by rw [markL_len, List.length_take]; omega
    have hL2 : (kd.drop (i + 1)).length = kd.length - (i + 1) := List.length_drop ..
    generalize markL (kd.take i) k = L1 at hown hmk hL1
    generalize hL2e : kd.drop (i + 1) = L2 at hown hmk hL2 hcnt
    unfold Own at hown
    obtain ⟨hw, ⟨e, _⟩ | ⟨n, c, opn, cap2, G, ev, rfl, hnG, hat, hcl, hlen, how⟩⟩ := hown
    · have := congrArg List.length e
      simp [encL_len] at this
    rw [encL_append] at how
    simp only [encL] at how
    obtain ⟨c1, c2, F1, F2, hcc, rfl, hd12, hw1, hw2⟩ := how.split
    simp only [Owns] at hw2
    obtain ⟨cx, c3, Fx, F3, rfl, rfl, hdx3, hwx, hw3⟩ := hw2
    obtain ⟨vk, vl, Fk, Fl, rfl, rfl, hdkl, hwk, hwl⟩ := own_obj_inv hwx
    have hq : c1.length = i * 5 := by rw [hw1.len, wids_encL, hL1]
    obtain ⟨tl, hctl⟩ : ∃ tl, c = c1 ++ (Value.int .i64 xa :: .int .i64 xb :: .string xt :: vk :: vl :: (c3 ++ tl)) := by
      refine ⟨c.drop ((encL L1 ++ encO (OT.mk xa xb xt ks ds) :: encL L2).length * 5), ?_⟩
      have e := List.take_append_drop ((encL L1 ++ encO (OT.mk xa xb xt ks ds) :: encL L2).length * 5) c
      rw [hcc] at e
      simpa using e.symm
    subst hctl
    have hn : n < h.size := hF n (by simp)
    have hch1 := hch.1
    simp only [List.cons.injEq, Value.slice.injEq, and_true] at ev
    obtain ⟨rfl, _, rfl⟩ := ev
    generalize hkk : k + (cntL (kd.take i) : Int) = kk at *
    simp -dsimp -implicitDefEqProofs only [Z00, Z01, Z02, Z03, Z04, Z05, Z06, Z07, Z08, Z09, Z0a, Z0b, Z0c, Z0d, Z0e, Z0f, Z0g, Z0h, Z0i, Z0j, Z0k, Z0l, Z0m, Z0n, Z0o, Z0p, Z0q, Z0r, Z0s, Z0t, Z0u, Z0v, Z0w, Z0x, Z0y, Z0z, Z10, Z11, Z12, Z13, Z14, Z15, Z16, Z17, Z18, Z19, ↓reduceIte, Nat.reduceEqDiff, Z1a, Z1b, Z1c, Z1d, Z1e, Z1f, Z1g, Z1h, Z1i, Z1j, Z1k, Z1l, Z1m, Z1n, Z1o, Z1p, Z1q, Z1r, Z1s, Z1t, Z1u, Z1v, Z1w, Z1x, Z1y, Z1z, Z20, Z21, Z22, Z23, Z24, Z25, Z26, Z27, Z28, Z29, Z2a, e0, e1, e5, s_iaddr (Int.natCast_nonneg i) hc, hat, Nat.zero_add, Int.toNat_natCast, st_mid hq (x := .int .i64 _) rfl, Nat.reduceLT, List.set_cons_zero, List.set_cons_succ, set_set]
    rw [wrap64 (x := kk + 1) (by omega) (by omega), wrap64 (x := kk + 1 + 1) (by omega) (by omega), show kk + 1 + 1 = kk + 2 by omega]
    have dF1 : ∀ m ∈ F1, m ≠ n := fun m hm e => hnG (by rw [← e]; exact List.mem_append_left _ hm)
    have dFk : ∀ m ∈ Fk, m ≠ n := fun m hm e => hnG (by rw [← e]; exact List.mem_append_right _ (List.mem_append_left _ (List.mem_append_left _ hm)))
    have dFl : ∀ m ∈ Fl, m ≠ n := fun m hm e => hnG (by rw [← e]; exact List.mem_append_right _ (List.mem_append_left _ (List.mem_append_right _ hm)))
    have dF3 : ∀ m ∈ F3, m ≠ n := fun m hm e => hnG (by rw [← e]; exact List.mem_append_right _ (List.mem_append_right _ hm))
    have bF1 : ∀ m ∈ F1, m < h1.size := fun m hm => Nat.lt_of_lt_of_le (hF m (List.mem_cons_of_mem _ (List.mem_append_left _ hm))) hch1
    have bFk : ∀ m ∈ Fk, m < h1.size := fun m hm => Nat.lt_of_lt_of_le (hF m (List.mem_cons_of_mem _ (List.mem_append_right _ (List.mem_append_left _ (List.mem_append_left _ hm))))) hch1
    have bFl : ∀ m ∈ Fl, m < h1.size := fun m hm => Nat.lt_of_lt_of_le (hF m (List.mem_cons_of_mem _ (List.mem_append_right _ (List.mem_append_left _ (List.mem_append_right _ hm))))) hch1
    have bF3 : ∀ m ∈ F3, m < h1.size := fun m hm => Nat.lt_of_lt_of_le (hF m (List.mem_cons_of_mem _ (List.mem_append_right _ (List.mem_append_right _ hm)))) hch1
    have b1k : ∀ m ∈ F1, m ∉ Fk := fun m hm hm2 => hd12 m hm (List.mem_append_left _ (List.mem_append_left _ hm2))
    have b1l : ∀ m ∈ F1, m ∉ Fl := fun m hm hm2 => hd12 m hm (List.mem_append_left _ (List.mem_append_right _ hm2))
    have b3k : ∀ m ∈ F3, m ∉ Fk := fun m hm hm2 => hdx3 m (List.mem_append_left _ hm2) hm
    have b3l : ∀ m ∈ F3, m ∉ Fl := fun m hm hm2 => hdx3 m (List.mem_append_right _ hm2) hm
    refine callT_of (c67 (by omega) (by omega)) ?_
    rintro r h2 - ⟨ext2, rfl⟩
    have s2 := ext2.size
    rw [set_size] at s2
    have hat2 := (ext2.old n (by rw [set_size]; omega)).trans set_same
    have old2 : ∀ m, m < h1.size → m ≠ n → h2.at_ m = h1.at_ m := fun m hm hmn => (ext2.old m hm).trans (set_other hmn)
    simp -dsimp -implicitDefEqProofs only [Z00, Z01, Z02, Z03, Z04, Z05, Z06, Z07, Z08, Z09, Z0a, Z0b, Z0c, Z0d, Z0e, Z0f, Z0g, Z0h, Z0i, Z0j, Z0k, Z0l, Z0m, Z0n, Z0o, Z0p, Z0q, Z0r, Z0s, Z0t, Z0u, Z0v, Z0w, Z0x, Z0y, Z0z, Z10, Z11, Z12, Z13, Z14, Z15, Z16, Z17, Z18, Z19, ↓reduceIte, Nat.reduceEqDiff, Z1a, Z1b, Z1c, Z1d, Z1e, Z1f, Z1g, Z1h, Z1i, Z1j, Z1k, Z1l, Z1m, Z1n, Z1o, Z1p, Z1q, Z1r, Z1s, Z1t, Z1u, Z1v, Z1w, Z1x, Z1y, Z1z, Z20, Z21, Z22, Z23, Z24, Z25, Z26, Z27, Z28, Z29, Z2a, e0, e1, e5, s_iaddr (Int.natCast_nonneg i) hc, hat2, Nat.zero_add, Int.toNat_natCast, st_mid hq (x := .string _) rfl, mid_get hq, Nat.reduceLT, List.set_cons_zero, List.set_cons_succ, List.getElem?_cons_zero, List.getElem?_cons_succ, set_set]
    obtain ⟨h3, hh⟩ : ∃ h3, h3 = h2.set n (.cells (c1 ++ Value.int .i64 kk :: .int .i64 (kk + 1) :: .string (mt (kk + 2)) :: vk :: vl :: (c3 ++ tl)) 5 opn true) := ⟨_, rfl⟩
    have hat3 : h3.at_ n = .cells (c1 ++ Value.int .i64 kk :: .int .i64 (kk + 1) :: .string (mt (kk + 2)) :: vk :: vl :: (c3 ++ tl)) 5 opn true := by rw [hh]; exact set_same
    have s3 : h3.size = h2.size := by rw [hh]; rfl
    have old3 : ∀ m, m < h1.size → m ≠ n → h3.at_ m = h1.at_ m := fun m hm hmn => by rw [hh, set_other hmn]; exact old2 m hm hmn
    rw [← hh]
    clear hh
    rw [wrap64 (by omega) (by omega), show kk + 2 + 1 = kk + 3 by omega]
    refine callT_of (c39 (hwk.keep fun m hm => old3 m (bFk m hm) (dFk m hm)) (fun m hm => by have := bFk m hm; omega) (by omega) (by omega)) ?_
    rintro r h4 - ⟨ch4, rfl, own4⟩
    have s4 := ch4.1
    have hat4 := (ch4.2 n (by omega) (fun hm => dFk n hm rfl)).trans hat3
    have old4 : ∀ m, m < h1.size → m ≠ n → m ∉ Fk → h4.at_ m = h1.at_ m := fun m hm hmn hmk => (ch4.2 m (by omega) hmk).trans (old3 m hm hmn)
    simp -dsimp -implicitDefEqProofs only [Z00, Z01, Z02, Z03, Z04, Z05, Z06, Z07, Z08, Z09, Z0a, Z0b, Z0c, Z0d, Z0e, Z0f, Z0g, Z0h, Z0i, Z0j, Z0k, Z0l, Z0m, Z0n, Z0o, Z0p, Z0q, Z0r, Z0s, Z0t, Z0u, Z0v, Z0w, Z0x, Z0y, Z0z, Z10, Z11, Z12, Z13, Z14, Z15, Z16, Z17, Z18, Z19, ↓reduceIte, Nat.reduceEqDiff, Z1a, Z1b, Z1c, Z1d, Z1e, Z1f, Z1g, Z1h, Z1i, Z1j, Z1k, Z1l, Z1m, Z1n, Z1o, Z1p, Z1q, Z1r, Z1s, Z1t, Z1u, Z1v, Z1w, Z1x, Z1y, Z1z, Z20, Z21, Z22, Z23, Z24, Z25, Z26, Z27, Z28, Z29, Z2a, e0, e1, e5, s_iaddr (Int.natCast_nonneg i) hc, hat4, Nat.zero_add, Int.toNat_natCast, mid_get hq, List.getElem?_cons_zero, List.getElem?_cons_succ]
    refine callT_of (ihi h4 vl Fl _ (hwl.keep fun m hm => old4 m (bFl m hm) (dFl m hm) (fun hm2 => hdkl m hm2 hm)) (fun m hm => by have := bFl m hm; omega) (by omega) (by omega)) ?_
    rintro r h5 - ⟨ch5, rfl, own5⟩
    have s5 := ch5.1
    have hat5 := (ch5.2 n (by omega) (fun hm => dFl n hm rfl)).trans hat4
    have old5 : ∀ m, m < h1.size → m ≠ n → m ∉ Fk → m ∉ Fl → h5.at_ m = h1.at_ m := fun m hm hmn hmk hml => (ch5.2 m (by omega) hml).trans (old4 m hm hmn hmk)
    simp -dsimp -implicitDefEqProofs only [Z00, Z01, Z02, Z03, Z04, Z05, Z06, Z07, Z08, Z09, Z0a, Z0b, Z0c, Z0d, Z0e, Z0f, Z0g, Z0h, Z0i, Z0j, Z0k, Z0l, Z0m, Z0n, Z0o, Z0p, Z0q, Z0r, Z0s, Z0t, Z0u, Z0v, Z0w, Z0x, Z0y, Z0z, Z10, Z11, Z12, Z13, Z14, Z15, Z16, Z17, Z18, Z19, ↓reduceIte, Nat.reduceEqDiff, Z1a, Z1b, Z1c, Z1d, Z1e, Z1f, Z1g, Z1h, Z1i, Z1j, Z1k, Z1l, Z1m, Z1n, Z1o, Z1p, Z1q, Z1r, Z1s, Z1t, Z1u, Z1v, Z1w, Z1x, Z1y, Z1z, Z20, Z21, Z22, Z23, Z24, Z25, Z26, Z27, Z28, Z29, Z2a, e0, e1, e5]
    rw [wrap64 (by omega) (by omega)]
    refine ⟨⟨i + 1, ⟨by omega, fun m hm hmF => ?_⟩, ?_, hi2, trivial, ?_, rfl⟩, ?_⟩
    · have hmn : m ≠ n := fun e => hmF (by rw [e]; exact List.mem_cons_self)
      have hmk : m ∉ Fk := fun e => hmF (List.mem_cons_of_mem _ (List.mem_append_right _ (List.mem_append_left _ (List.mem_append_left _ e))))
      have hml : m ∉ Fl := fun e => hmF (List.mem_cons_of_mem _ (List.mem_append_right _ (List.mem_append_left _ (List.mem_append_right _ e))))
      exact (old5 m (by omega) hmn hmk hml).trans (hch.2 m hm hmF)
    · rw [hL2e, hmk]
      have own4' := own4.keep (h' := h5) fun m hm => ch5.2 m (by have := bFk m hm; omega) (hdkl m hm)
      have ox := own_obj (a := kk) (b := kk + 1) (t := mt (kk + 2)) own4' own5 hdkl
      have o1 := hw1.keep (h' := h5) fun m hm => old5 m (bF1 m hm) (dF1 m hm) (b1k m hm) (b1l m hm)
      have o3 := hw3.keep (h' := h5) fun m hm => old5 m (bF3 m hm) (dF3 m hm) (b3k m hm) (b3l m hm)
      have hlen5 : (L1 ++ OT.mk kk (kk + 1) (mt (kk + 2)) (mkK ks (kk + 3)) (markL ds (kk + 3 + ks.length)) :: L2).length = kd.length := by
        simp only [List.length_append, List.length_cons, hL1, hL2]; omega
      have ox3 : Owns h5 (encO (OT.mk kk (kk + 1) (mt (kk + 2)) (mkK ks (kk + 3)) (markL ds (kk + 3 + ks.length))) :: encL L2) ([Value.int .i64 kk, .int .i64 (kk + 1), .string (mt (kk + 2)), vk, vl] ++ c3) (Fk ++ Fl ++ F3) := by
        unfold Owns
        exact ⟨_, _, _, _, rfl, rfl, hdx3, ox, o3⟩
      have all5 := Owns.join ox3 o1 hd12
      have l3 : c3.length = L2.length * 5 := by rw [hw3.len, wids_encL]
      unfold Own
      refine ⟨fun d hd => wid_mem hd, .inr ⟨n, _, opn, cap, _, by rw [encL_len, hlen5], rfl, hnG, hat5, ?_, ?_, ?_⟩⟩
      · simpa using hcl
      · rw [encL_len, hlen5]
        rw [encL_len] at hlen
        simp only [List.length_append, List.length_cons, hL1, hL2] at hlen ⊢
        omega
      · rw [encL_len, hlen5, encL_append]
        have e : (c1 ++ Value.int .i64 kk :: .int .i64 (kk + 1) :: .string (mt (kk + 2)) :: vk :: vl :: (c3 ++ tl)).take (kd.length * 5) = c1 ++ ([Value.int .i64 kk, .int .i64 (kk + 1), .string (mt (kk + 2)), vk, vl] ++ c3) := by
          have el : (c1 ++ ([Value.int .i64 kk, .int .i64 (kk + 1), .string (mt (kk + 2)), vk, vl] ++ c3)).length = kd.length * 5 := by
            simp only [List.length_append, List.length_cons, List.length_nil, hq, l3, hL2]; omega
          rw [← el]
          have : c1 ++ Value.int .i64 kk :: .int .i64 (kk + 1) :: .string (mt (kk + 2)) :: vk :: vl :: (c3 ++ tl) = (c1 ++ ([Value.int .i64 kk, .int .i64 (kk + 1), .string (mt (kk + 2)), vk, vl] ++ c3)) ++ tl := by simp
          rw [this, List.take_left']
          rfl
        rw [e]
        exact all5
    · congr 1
      omega
    · simp only [intOf]; omega
  · simp only [decide_eq_false_iff_not] at hc
    have : i = kd.length := by omega
    subst this
    rw [List.take_length] at e1 hown
    rw [List.drop_length, List.append_nil] at hown
    simp -dsimp -implicitDefEqProofs only [Z00, Z01, Z02, Z03, Z04, Z05, Z06, Z07, Z08, Z09, Z0a, Z0b, Z0c, Z0d, Z0e, Z0f, Z0g, Z0h, Z0i, Z0j, Z0k, Z0l, Z0m, Z0n, Z0o, Z0p, Z0q, Z0r, Z0s, Z0t, Z0u, Z0v, Z0w, Z0x, Z0y, Z0z, Z10, Z11, Z12, Z13, Z14, Z15, Z16, Z17, Z18, Z19, ↓reduceIte, Nat.reduceEqDiff, Z1a, Z1b, Z1c, Z1d, Z1e, Z1f, Z1g, Z1h, Z1i, Z1j, Z1k, Z1l, Z1m, Z1n, Z1o, Z1p, Z1q, Z1r, Z1s, Z1t, Z1u, Z1v, Z1w, Z1x, Z1y, Z1z, Z20, Z21, Z22, Z23, Z24, Z25, Z26, Z27, Z28, Z29, Z2a, retK, resC, resV, e0, e1, e5]
    exact ⟨hch, trivial, hown⟩

theorem c40 (kd : List OT) : C40 kd := c40_of fun o ho => c40 (kidsOf o)
termination_by SizeOf.sizeOf kd
decreasing_by exact kids_lt ho

end Go.Proofs.Ytdfmdclfnhgjiaa.Can
