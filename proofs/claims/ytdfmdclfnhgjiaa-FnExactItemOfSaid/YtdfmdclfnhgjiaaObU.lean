/- Marks on items, set and found.
   Conditions: those that each law names. -/
import Derived.Test.YtdfmdclfnhgjiaaObT
set_option linter.unusedVariables false
set_option linter.unusedSimpArgs false
namespace Go.Proofs.Ytdfmdclfnhgjiaa.Can
open Go

section
variable {h0 h h' : CH} {Z : List Nat} {T R : List It}
theorem St.swap (K : St h0 Z T h) {T' : List It} (hf : (feet T').Perm (feet T)) (ok : okAll h T') : St h0 Z T' h :=
  ⟨K.size, K.keep, ok, hf.nodup_iff.2 K.nd, fun n hn => K.rng n (hf.mem_iff.1 hn)⟩
theorem Chg.st {F : List Nat} {d : D} {cs : List Value} (c : Chg h h' F) (o : Own h' d cs F) (hF : ∀ n ∈ F, n < h.size) : St h F [.ow d cs F] h' :=
  ⟨c.1, c.2, ⟨o, trivial⟩, by simpa [feet, It.foot] using o.nodup, fun n hn => by
    simp only [feet, It.foot, List.append_nil] at hn
    exact ⟨.inl hn, Nat.lt_of_lt_of_le (hF n hn) c.1⟩⟩
theorem St.chg {F : List Nat} (K : St h F T h') : Chg h h' F := ⟨K.size, K.keep⟩

/-- A slice of its own, opened at one element. -/
theorem St.open (K : St h0 Z T h) {k m : Nat} {ds : List D} {v : Value} {F : List Nat} (i : Nat) (e : T[i]? = some (.ow (.arr k ds) [v] F)) (hm : m < ds.length) :
    ∃ n p cap c1 cx c3 tl F1 Fx F3, v = .slice (some ⟨n, 0, none⟩) ds.length cap ∧ c1.length = m * k ∧ (c1 ++ (cx ++ (c3 ++ tl))).length = cap * k ∧ (∀ d ∈ ds, wid d = k) ∧
      St h0 Z (.bx n (c1 ++ (cx ++ (c3 ++ tl))) k p :: .ow (.str (ds.take m)) c1 F1 :: .ow ds[m] cx Fx :: .ow (.str (ds.drop (m + 1))) c3 F3 :: T.eraseIdx i) h := by
  have K2 := K.perm (pick_perm e)
  have oa := K2.ow 0 rfl
  simp only [Own] at oa
  obtain ⟨hw0, ⟨rfl, _⟩ | ⟨n, c, p, cap, Gi, ev, rfl, hnG, hat, hcl, hlen, how⟩⟩ := oa
  · simp at hm
  have hds : ds = ds.take m ++ ds[m] :: ds.drop (m + 1) := by rw [← List.drop_eq_getElem_cons hm, List.take_append_drop]
  generalize hcc : c.take (ds.length * k) = cc at how
  rw [hds] at how
  obtain ⟨c1, c2, F1, F2, rfl, rfl, hd12, hw1, hw2⟩ := how.split
  simp only [Owns] at hw2
  obtain ⟨cx, c3, Fx, F3, rfl, rfl, hdx3, hwx, hw3⟩ := hw2
  have l1 : c1.length = m * k := by
    rw [hw1.len, wids_k (fun d hd => hw0 d (List.mem_of_mem_take hd)), List.length_take, Nat.min_eq_left (by omega)]
  obtain ⟨tl, htl⟩ : ∃ tl, c = c1 ++ (cx ++ (c3 ++ tl)) := ⟨c.drop (ds.length * k), by rw [← List.append_assoc, ← List.append_assoc, List.append_assoc c1 cx c3, ← hcc, List.take_append_drop]⟩
  simp only [List.cons.injEq, and_true] at ev
  subst htl
  refine ⟨n, p, cap, c1, cx, c3, tl, F1, Fx, F3, ev, l1, hcl, hw0, K2.swap ?_ ⟨hat, ?_, hwx, ?_, K2.ok.2⟩⟩
  · simp only [feet, It.foot, List.cons_append, List.nil_append, List.append_assoc]
    exact .refl _
  · show Own _ _ _ _; simp only [Own]; exact hw1
  · show Own _ _ _ _; simp only [Own]; exact hw3
/-- And shut again, with another element. -/
theorem St.shut {k n cap : Nat} {p : Bool} {pre post : List D} {d : D} {c1 cx c3 tl : List Value} {F1 Fx F3 : List Nat} (K : St h0 Z (.bx n (c1 ++ (cx ++ (c3 ++ tl))) k p :: .ow (.str pre) c1 F1 :: .ow d cx Fx :: .ow (.str post) c3 F3 :: R) h)
    (hw : ∀ a ∈ pre ++ d :: post, wid a = k) (hl : (c1 ++ (cx ++ (c3 ++ tl))).length = cap * k) : St h0 Z (.ow (.arr k (pre ++ d :: post)) [.slice (some ⟨n, 0, none⟩) (pre ++ d :: post).length cap] (n :: (F1 ++ (Fx ++ F3))) :: R) h := by
  have o1 := K.ow 1 rfl
  have ox := K.ow 2 rfl
  have o3 := K.ow 3 rfl
  have nd := K.nd
  simp only [feet, It.foot, List.cons_append, List.nil_append] at nd
  simp only [Own] at o1 o3
  have hn := List.nodup_cons.1 nd
  have nd1 := List.nodup_append.1 hn.2
  have ndx := List.nodup_append.1 nd1.2.1
  refine K.swap ?_ ⟨?_, K.ok.2.2.2.2⟩
  · simp only [feet, It.foot, List.cons_append, List.nil_append, List.append_assoc]
    exact .refl _
  · show Own _ _ _ _
    simp only [Own]
    have hj : Owns h (pre ++ d :: post) (c1 ++ (cx ++ c3)) (F1 ++ (Fx ++ F3)) := by
      refine Owns.join ?_ o1 (fun a ha hb => ?_)
      · simp only [Owns]
        exact ⟨cx, c3, Fx, F3, rfl, rfl, fun a ha hb => ndx.2.2 a ha a (List.mem_append_left _ hb) rfl, ox, o3⟩
      · rcases List.mem_append.1 hb with hb | hb
        · exact nd1.2.2 a ha a (List.mem_append_left _ hb) rfl
        · exact nd1.2.2 a ha a (List.mem_append_right _ (List.mem_append_left _ hb)) rfl
    have el : (c1 ++ (cx ++ c3)).length = (pre ++ d :: post).length * k := by rw [hj.len, wids_k hw]
    refine ⟨hw, .inr ⟨n, _, p, cap, F1 ++ (Fx ++ F3), rfl, rfl, fun q => hn.1 ?_, K.bx 0 rfl, hl, ?_, ?_⟩⟩
    · rcases List.mem_append.1 q with q | q
      · exact List.mem_append_left _ q
      · rcases List.mem_append.1 q with q | q
        · exact List.mem_append_right _ (List.mem_append_left _ q)
        · exact List.mem_append_right _ (List.mem_append_right _ (List.mem_append_left _ q))
    · rw [← el]; simp
    · have : c1 ++ (cx ++ (c3 ++ tl)) = (c1 ++ (cx ++ c3)) ++ tl := by simp
      rw [← el, this, List.take_left']
      · exact hj
      · rfl

theorem own_item_inv {x : IT} {cs : List Value} {F : List Nat} (g : Own h (encI x) cs F) : ∃ a b t ks kd vk vl Fk Fl, x.body = .mk a b t ks kd ∧ cs = [.int .i64 x.num, .int .i64 a, .int .i64 b, .string t, vk, vl, .bool x.has, .string x.data] ∧ F = Fk ++ Fl ∧ Own h (encK ks) [vk] Fk ∧ Own h (.arr 5 (encL kd)) [vl] Fl := by
  obtain ⟨num, ⟨a, b, t, ks, kd⟩, has, data⟩ := x
  simp only [encI] at g ⊢
  rw [Own, Owns] at g
  obtain ⟨c1, r1, F1, R1, rfl, rfl, _, g1, g⟩ := g
  rw [Owns] at g
  obtain ⟨c2, r2, F2, R2, rfl, rfl, _, g2, g⟩ := g
  rw [Owns] at g
  obtain ⟨c3, r3, F3, R3, rfl, rfl, _, g3, g⟩ := g
  rw [Owns] at g
  obtain ⟨c4, r4, F4, R4, rfl, rfl, _, g4, g⟩ := g
  rw [Owns] at g
  obtain ⟨rfl, rfl⟩ := g
  simp only [Own] at g1 g3 g4
  obtain ⟨rfl, _, rfl⟩ := g1
  obtain ⟨rfl, _, rfl⟩ := g3
  obtain ⟨rfl, _, rfl⟩ := g4
  obtain ⟨vk, vl, Fk, Fl, rfl, rfl, _, hk, hl⟩ := own_obj_inv g2
  exact ⟨a, b, t, ks, kd, vk, vl, Fk, Fl, rfl, by simp, by simp, hk, hl⟩
theorem st_mid8 {L : Value → CH → Prop} {c1 tl : List Value} {a0 a1 a2 a3 a4 a5 a6 a7 x : Value} {k n q j : Nat} {p : Bool} {u : Tok L} (hq : c1.length = q) (hx : x.oneCell' = true) (hj : j < 8) :
    stT 1 (q + j) x (.cells (c1 ++ a0 :: a1 :: a2 :: a3 :: a4 :: a5 :: a6 :: a7 :: tl) k p true) n h L u = L undef (h.set n (.cells (c1 ++ (a0 :: a1 :: a2 :: a3 :: a4 :: a5 :: a6 :: a7 :: tl).set j x) k p true)) := by
  rw [st_one hx (by simp; omega), ← hq, List.set_append, if_neg (by omega), Nat.add_sub_cancel_left]
end

theorem st_mid80 {h : CH} {L : Value → CH → Prop} {c1 tl : List Value} {a0 a1 a2 a3 a4 a5 a6 a7 x : Value} {k n q : Nat} {p : Bool} {u : Tok L} (hq : c1.length = q) (hx : x.oneCell' = true) :
    stT 1 q x (.cells (c1 ++ a0 :: a1 :: a2 :: a3 :: a4 :: a5 :: a6 :: a7 :: tl) k p true) n h L u = L undef (h.set n (.cells (c1 ++ (x :: a1 :: a2 :: a3 :: a4 :: a5 :: a6 :: a7 :: tl)) k p true)) := by
  have := st_mid8 (h := h) (L := L) (u := u) (n := n) (k := k) (p := p) (j := 0) (a0 := a0) (a1 := a1) (a2 := a2) (a3 := a3) (a4 := a4) (a5 := a5) (a6 := a6) (a7 := a7) (tl := tl) hq hx (by omega)
  simpa using this
def cntI (x : IT) : Nat := 6 + cntO x.body
def cntIs : List IT → Nat
  | [] => 0
  | x :: r => cntI x + cntIs r
theorem cntIs_append : ∀ a b : List IT, cntIs (a ++ b) = cntIs a + cntIs b
  | [], b => by simp [cntIs]
  | x :: a, b => by simp only [List.cons_append, cntIs, cntIs_append a b]; omega
theorem cntIs_step {xs : List IT} {i : Nat} (hi : i < xs.length) : cntIs (xs.take (i + 1)) = cntIs (xs.take i) + cntI xs[i] := by
  rw [List.take_succ_eq_append_getElem hi, cntIs_append]; simp [cntIs]
theorem cntIs_le {xs : List IT} {i : Nat} : cntIs (xs.take i) ≤ cntIs xs := by
  have : cntIs xs = cntIs (xs.take i) + cntIs (xs.drop i) := by rw [← cntIs_append, List.take_append_drop]
  omega

theorem c66 {h : CH} {v : Value} {xs : List IT} {F : List Nat} {k : Int} (hs : Own h (encIs xs) [v] F) (hF : ∀ n ∈ F, n < h.size) (k0 : 0 ≤ k) (k1 : k + cntIs xs ≤ 4294967296) (hb : xs.length ≤ 1048576) :
    callW Try.prog 66 [v, .int .i64 k] h fun r h' => Chg h h' F ∧ r = .int .i64 (k + cntIs xs) := by
  refine callW_of (wf _) Try.func66 m66_ok (by simp [m66]) ?_
  obtain ⟨av, cv, rfl⟩ := Rd.form hs.rd
  simp only [List.length_map] at *
  have K0 : St h F [.ow (encIs xs) [.slice av xs.length cv] F] h := by
    have := St.start (T := [.ow (encIs xs) [.slice av xs.length cv] F]) (h := h) ⟨hs, trivial⟩ (by simpa [feet, It.foot] using hs.nodup) (by simpa [feet, It.foot] using hF)
    simpa [feet, It.foot] using this
  simp -dsimp -implicitDefEqProofs (disch := omega) only [Z00, Z01, Z02, Z03, Z04, Z05, Z06, Z07, Z08, Z09, Z0a, Z0b, Z0c, Z0d, Z0e, Z0f, Z0g, Z0h, Z0i, Z0j, Z0k, Z2b, Z2c, Z0m, Z0n, Z0o, Z0p, Z0q, Z0r, Z0s, Z0t, Z0u, Z0v, Z0w, Z0x, Z0y, Z0z, Z10, Z11, Z12, Z13, Z14, Z15, Z16, Z17, Z18, Z19, ↓reduceIte, Nat.reduceEqDiff, Z1a, Z1b, Z1c, Z1d, Z1e, Z1f, Z1g, Z1h, Z1i, Z1j, Z1k, Z1l, Z1m, Z1n, Z1o, Z1p, Z1q, Z1r, Z1s, Z1t, Z1u, Z1v, Z1w, Z1x, Z1y, Z1z, Z20, Z21, Z22, Z23, Z24, Z25, Z26, Z27, Z28, Z29, Z2a, Z2d, retK, resC, resV, Z2h, Z2i, Z2j, Z2k, Z2l, Z2m, Z2n, Z2o, Z2p, Z2q, Z2r, Z2s, Z2t, Z2u, Z2v, Z2w, Z2x, Nat.reduceAdd, Nat.reduceLT, Nat.reduceLeDiff, Z2y, Z2z, Z30, Z31, Z32, Z33, Z34, Z35, Z36, Z37, Z38, Z39, m66_1, m66_2, m66]
  refine loopT_of (wpC_loop (fun ρ h2 => ∃ (i : Nat) (F' : List Nat) (ys : List IT), St h F [.ow (encIs ys) [.slice av xs.length cv] F'] h2 ∧ ys.length = xs.length ∧ ys.drop i = xs.drop i ∧ i ≤ xs.length ∧ ρ 0 = .slice av xs.length cv ∧ ρ 1 = .int .i64 (k + cntIs (xs.take i)) ∧ ρ 5 = .int .i64 i) (fun ρ _ => xs.length - intOf (ρ 5)) ⟨0, F, xs, K0, rfl, rfl, Nat.zero_le _, ?_, ?_, ?_⟩ ?_)
  · simp -dsimp -implicitDefEqProofs (disch := omega) only [Z00, Z01, Z02, Z03, Z04, Z05, Z06, Z07, Z08, Z09, Z0a, Z0b, Z0c, Z0d, Z0e, Z0f, Z0g, Z0h, Z0i, Z0j, Z0k, Z2b, Z2c, Z0m, Z0n, Z0o, Z0p, Z0q, Z0r, Z0s, Z0t, Z0u, Z0v, Z0w, Z0x, Z0y, Z0z, Z10, Z11, Z12, Z13, Z14, Z15, Z16, Z17, Z18, Z19, ↓reduceIte, Nat.reduceEqDiff, Z1a, Z1b, Z1c, Z1d, Z1e, Z1f, Z1g, Z1h, Z1i, Z1j, Z1k, Z1l, Z1m, Z1n, Z1o, Z1p, Z1q, Z1r, Z1s, Z1t, Z1u, Z1v, Z1w, Z1x, Z1y, Z1z, Z20, Z21, Z22, Z23, Z24, Z25, Z26, Z27, Z28, Z29, Z2a, Z2d, retK, resC, resV, Z2h, Z2i, Z2j, Z2k, Z2l, Z2m, Z2n, Z2o, Z2p, Z2q, Z2r, Z2s, Z2t, Z2u, Z2v, Z2w, Z2x, Nat.reduceAdd, Nat.reduceLT, Nat.reduceLeDiff, Z2y, Z2z, Z30, Z31, Z32, Z33, Z34, Z35, Z36, Z37, Z38, Z39, m66_1, m66_2, m66]
  · simp -dsimp -implicitDefEqProofs (disch := omega) only [Z00, Z01, Z02, Z03, Z04, Z05, Z06, Z07, Z08, Z09, Z0a, Z0b, Z0c, Z0d, Z0e, Z0f, Z0g, Z0h, Z0i, Z0j, Z0k, Z2b, Z2c, Z0m, Z0n, Z0o, Z0p, Z0q, Z0r, Z0s, Z0t, Z0u, Z0v, Z0w, Z0x, Z0y, Z0z, Z10, Z11, Z12, Z13, Z14, Z15, Z16, Z17, Z18, Z19, ↓reduceIte, Nat.reduceEqDiff, Z1a, Z1b, Z1c, Z1d, Z1e, Z1f, Z1g, Z1h, Z1i, Z1j, Z1k, Z1l, Z1m, Z1n, Z1o, Z1p, Z1q, Z1r, Z1s, Z1t, Z1u, Z1v, Z1w, Z1x, Z1y, Z1z, Z20, Z21, Z22, Z23, Z24, Z25, Z26, Z27, Z28, Z29, Z2a, Z2d, retK, resC, resV, Z2h, Z2i, Z2j, Z2k, Z2l, Z2m, Z2n, Z2o, Z2p, Z2q, Z2r, Z2s, Z2t, Z2u, Z2v, Z2w, Z2x, Nat.reduceAdd, Nat.reduceLT, Nat.reduceLeDiff, Z2y, Z2z, Z30, Z31, Z32, Z33, Z34, Z35, Z36, Z37, Z38, Z39, m66_1, m66_2, m66]; simp [cntIs]
  · simp -dsimp -implicitDefEqProofs (disch := omega) only [Z00, Z01, Z02, Z03, Z04, Z05, Z06, Z07, Z08, Z09, Z0a, Z0b, Z0c, Z0d, Z0e, Z0f, Z0g, Z0h, Z0i, Z0j, Z0k, Z2b, Z2c, Z0m, Z0n, Z0o, Z0p, Z0q, Z0r, Z0s, Z0t, Z0u, Z0v, Z0w, Z0x, Z0y, Z0z, Z10, Z11, Z12, Z13, Z14, Z15, Z16, Z17, Z18, Z19, ↓reduceIte, Nat.reduceEqDiff, Z1a, Z1b, Z1c, Z1d, Z1e, Z1f, Z1g, Z1h, Z1i, Z1j, Z1k, Z1l, Z1m, Z1n, Z1o, Z1p, Z1q, Z1r, Z1s, Z1t, Z1u, Z1v, Z1w, Z1x, Z1y, Z1z, Z20, Z21, Z22, Z23, Z24, Z25, Z26, Z27, Z28, Z29, Z2a, Z2d, retK, resC, resV, Z2h, Z2i, Z2j, Z2k, Z2l, Z2m, Z2n, Z2o, Z2p, Z2q, Z2r, Z2s, Z2t, Z2u, Z2v, Z2w, Z2x, Nat.reduceAdd, Nat.reduceLT, Nat.reduceLeDiff, Z2y, Z2z, Z30, Z31, Z32, Z33, Z34, Z35, Z36, Z37, Z38, Z39, m66_1, m66_2, m66]; rfl
  rintro ρ h2 ⟨i, F', ys, K2, hly, hdy, hi, e0, e1, e5⟩
  by_cases hc : i < xs.length
  · have d2 : decide ((i : Int) < xs.length) = true := by simp; omega
    have hiw : (i : Int) < (xs.length : Nat) := by omega
    have hci : i < ys.length := by omega
    have hyi : ys[i] = xs[i] := by
      have := congrArg (·[0]?) hdy
      simp only [List.getElem?_drop, Nat.add_zero] at this
      rw [List.getElem?_eq_getElem hci, List.getElem?_eq_getElem hc] at this
      exact Option.some.inj this
    obtain ⟨n, p, cap, c1, cx, c3, tl, F1, Fx, F3, ev, hq, hcl, hwd, K3⟩ := K2.open (m := i) 0 rfl (by simpa using hci)
    simp only [List.getElem_map, hyi] at K3
    simp only [Value.slice.injEq] at ev
    obtain ⟨rfl, _, rfl⟩ := ev
    have ox := K3.ow 2 rfl
    have hstep := cntIs_step hc
    have hle := cntIs_le (xs := xs) (i := i + 1)
    obtain ⟨a, b, t, ks, kd, vk, vl, Fk, Fl, eb, rfl, rfl, ok, ol⟩ := own_item_inv ox
    have hcnt : cntI xs[i] = 6 + (ks.length + cntL kd) := by simp only [cntI, eb, cntO]
    have K4 : St h F (.bx n (c1 ++ (.int .i64 xs[i].num :: .int .i64 a :: .int .i64 b :: .string t :: vk :: vl :: .bool xs[i].has :: .string xs[i].data :: (c3 ++ tl))) 8 p :: .ow (.str ((ys.map encI).take i)) c1 F1 :: .ow (encK ks) [vk] Fk :: .ow (.arr 5 (encL kd)) [vl] Fl :: .ow (.str ((ys.map encI).drop (i + 1))) c3 F3 :: []) h2 := by
      refine K3.swap ?_ ⟨K3.ok.1, K3.ok.2.1, ok, ol, K3.ok.2.2.2.1, trivial⟩
      simp only [feet, It.foot, List.append_assoc, List.eraseIdx_zero, List.tail_cons]
      exact .refl _
    clear K3 ox
    generalize hkk : k + (cntIs (xs.take i) : Int) = kk at e1
    have b4 := K4.bx 0 rfl
    have kk0 : 0 ≤ kk := by omega
    have kk1 : kk + (6 + (ks.length + cntL kd)) ≤ 4294967296 := by
      rw [hstep, hcnt] at hle
      omega
    simp -dsimp -implicitDefEqProofs (disch := omega) only [Z00, Z01, Z02, Z03, Z04, Z05, Z06, Z07, Z08, Z09, Z0a, Z0b, Z0c, Z0d, Z0e, Z0f, Z0g, Z0h, Z0i, Z0j, Z0k, Z2b, Z2c, Z0m, Z0n, Z0o, Z0p, Z0q, Z0r, Z0s, Z0t, Z0u, Z0v, Z0w, Z0x, Z0y, Z0z, Z10, Z11, Z12, Z13, Z14, Z15, Z16, Z17, Z18, Z19, ↓reduceIte, Nat.reduceEqDiff, Z1a, Z1b, Z1c, Z1d, Z1e, Z1f, Z1g, Z1h, Z1i, Z1j, Z1k, Z1l, Z1m, Z1n, Z1o, Z1p, Z1q, Z1r, Z1s, Z1t, Z1u, Z1v, Z1w, Z1x, Z1y, Z1z, Z20, Z21, Z22, Z23, Z24, Z25, Z26, Z27, Z28, Z29, Z2a, Z2d, retK, resC, resV, Z2h, Z2i, Z2j, Z2k, Z2l, Z2m, Z2n, Z2o, Z2p, Z2q, Z2r, Z2s, Z2t, Z2u, Z2v, Z2w, Z2x, Nat.reduceAdd, Nat.reduceLT, Nat.reduceLeDiff, Z2y, Z2z, Z30, Z31, Z32, Z33, Z34, Z35, Z36, Z37, Z38, Z39, m66_1, m66_2, m66, e0, e1, e5, d2, s_iaddr (Int.natCast_nonneg i) hiw, b4, st_mid8 hq (x := .int .i64 _) rfl, st_mid80 hq (x := .int .i64 _) rfl, set_set, Nat.add_assoc, Int.add_assoc, Int.reduceAdd]
    have K5 := K4.set (cs' := c1 ++ (.int .i64 kk :: .int .i64 (kk + 1) :: .int .i64 (kk + 2) :: .string t :: vk :: vl :: .bool xs[i].has :: .string xs[i].data :: (c3 ++ tl))) 0 rfl
    revert K5
    generalize h2.set n (.cells (c1 ++ (.int .i64 kk :: .int .i64 (kk + 1) :: .int .i64 (kk + 2) :: .string t :: vk :: vl :: .bool xs[i].has :: .string xs[i].data :: (c3 ++ tl))) 8 p true) = h5
    intro K5
    refine callT_of (c67 (by omega) (by omega)) ?_
    rintro r h6 - ⟨ext6, rfl⟩
    have K6 := K5.go0 ext6.st
    have b6 := K6.bx 0 rfl
    simp -dsimp -implicitDefEqProofs (disch := omega) only [Z00, Z01, Z02, Z03, Z04, Z05, Z06, Z07, Z08, Z09, Z0a, Z0b, Z0c, Z0d, Z0e, Z0f, Z0g, Z0h, Z0i, Z0j, Z0k, Z2b, Z2c, Z0m, Z0n, Z0o, Z0p, Z0q, Z0r, Z0s, Z0t, Z0u, Z0v, Z0w, Z0x, Z0y, Z0z, Z10, Z11, Z12, Z13, Z14, Z15, Z16, Z17, Z18, Z19, ↓reduceIte, Nat.reduceEqDiff, Z1a, Z1b, Z1c, Z1d, Z1e, Z1f, Z1g, Z1h, Z1i, Z1j, Z1k, Z1l, Z1m, Z1n, Z1o, Z1p, Z1q, Z1r, Z1s, Z1t, Z1u, Z1v, Z1w, Z1x, Z1y, Z1z, Z20, Z21, Z22, Z23, Z24, Z25, Z26, Z27, Z28, Z29, Z2a, Z2d, retK, resC, resV, Z2h, Z2i, Z2j, Z2k, Z2l, Z2m, Z2n, Z2o, Z2p, Z2q, Z2r, Z2s, Z2t, Z2u, Z2v, Z2w, Z2x, Nat.reduceAdd, Nat.reduceLT, Nat.reduceLeDiff, Z2y, Z2z, Z30, Z31, Z32, Z33, Z34, Z35, Z36, Z37, Z38, Z39, m66_1, m66_2, m66, e0, e1, e5, d2, s_iaddr (Int.natCast_nonneg i) hiw, b6, st_mid8 hq (x := .string _) rfl, mid_get hq, set_set, Nat.add_assoc, Int.add_assoc, Int.reduceAdd]
    have K7 := K6.set (cs' := c1 ++ (.int .i64 kk :: .int .i64 (kk + 1) :: .int .i64 (kk + 2) :: .string (mt (kk + 3)) :: vk :: vl :: .bool xs[i].has :: .string xs[i].data :: (c3 ++ tl))) 0 rfl
    revert K7
    generalize h6.set n (.cells (c1 ++ (.int .i64 kk :: .int .i64 (kk + 1) :: .int .i64 (kk + 2) :: .string (mt (kk + 3)) :: vk :: vl :: .bool xs[i].has :: .string xs[i].data :: (c3 ++ tl))) 8 p true) = h7
    intro K7
    refine callT_of (c39 (K7.ow 2 rfl) (K7.lt 2 rfl) (by omega) (by omega)) ?_
    rintro r h8 - ⟨ch8, rfl, own8⟩
    have K8 := K7.at (i := 2) rfl (ch8.st own8 (K7.lt 2 rfl))
    have b8 := K8.bx 0 rfl
    simp -dsimp -implicitDefEqProofs (disch := omega) only [Z00, Z01, Z02, Z03, Z04, Z05, Z06, Z07, Z08, Z09, Z0a, Z0b, Z0c, Z0d, Z0e, Z0f, Z0g, Z0h, Z0i, Z0j, Z0k, Z2b, Z2c, Z0m, Z0n, Z0o, Z0p, Z0q, Z0r, Z0s, Z0t, Z0u, Z0v, Z0w, Z0x, Z0y, Z0z, Z10, Z11, Z12, Z13, Z14, Z15, Z16, Z17, Z18, Z19, ↓reduceIte, Nat.reduceEqDiff, Z1a, Z1b, Z1c, Z1d, Z1e, Z1f, Z1g, Z1h, Z1i, Z1j, Z1k, Z1l, Z1m, Z1n, Z1o, Z1p, Z1q, Z1r, Z1s, Z1t, Z1u, Z1v, Z1w, Z1x, Z1y, Z1z, Z20, Z21, Z22, Z23, Z24, Z25, Z26, Z27, Z28, Z29, Z2a, Z2d, retK, resC, resV, Z2h, Z2i, Z2j, Z2k, Z2l, Z2m, Z2n, Z2o, Z2p, Z2q, Z2r, Z2s, Z2t, Z2u, Z2v, Z2w, Z2x, Nat.reduceAdd, Nat.reduceLT, Nat.reduceLeDiff, Z2y, Z2z, Z30, Z31, Z32, Z33, Z34, Z35, Z36, Z37, Z38, Z39, m66_1, m66_2, m66, e0, e1, e5, d2, s_iaddr (Int.natCast_nonneg i) hiw, b8, mid_get hq, Nat.add_assoc, Int.add_assoc, Int.reduceAdd]
    refine callT_of (c40 kd h8 vl Fl _ (K8.ow 3 rfl) (K8.lt 3 rfl) (by omega) (by omega)) ?_
    rintro r h9 - ⟨ch9, rfl, own9⟩
    have K9 := K8.at (i := 3) rfl (ch9.st own9 (K8.lt 3 rfl))
    have b9 := K9.bx 0 rfl
    generalize hmm : kk + (4 + (ks.length : Int)) + cntL kd = mm at *
    simp -dsimp -implicitDefEqProofs (disch := omega) only [Z00, Z01, Z02, Z03, Z04, Z05, Z06, Z07, Z08, Z09, Z0a, Z0b, Z0c, Z0d, Z0e, Z0f, Z0g, Z0h, Z0i, Z0j, Z0k, Z2b, Z2c, Z0m, Z0n, Z0o, Z0p, Z0q, Z0r, Z0s, Z0t, Z0u, Z0v, Z0w, Z0x, Z0y, Z0z, Z10, Z11, Z12, Z13, Z14, Z15, Z16, Z17, Z18, Z19, ↓reduceIte, Nat.reduceEqDiff, Z1a, Z1b, Z1c, Z1d, Z1e, Z1f, Z1g, Z1h, Z1i, Z1j, Z1k, Z1l, Z1m, Z1n, Z1o, Z1p, Z1q, Z1r, Z1s, Z1t, Z1u, Z1v, Z1w, Z1x, Z1y, Z1z, Z20, Z21, Z22, Z23, Z24, Z25, Z26, Z27, Z28, Z29, Z2a, Z2d, retK, resC, resV, Z2h, Z2i, Z2j, Z2k, Z2l, Z2m, Z2n, Z2o, Z2p, Z2q, Z2r, Z2s, Z2t, Z2u, Z2v, Z2w, Z2x, Nat.reduceAdd, Nat.reduceLT, Nat.reduceLeDiff, Z2y, Z2z, Z30, Z31, Z32, Z33, Z34, Z35, Z36, Z37, Z38, Z39, m66_1, m66_2, m66, e0, e1, e5, d2, s_iaddr (Int.natCast_nonneg i) hiw, s_rem (b := 3) (by decide), b9, st_mid8 hq (x := .bool _) rfl, set_set, Nat.add_assoc]
    have K10 := K9.set (cs' := c1 ++ (.int .i64 kk :: .int .i64 (kk + 1) :: .int .i64 (kk + 2) :: .string (mt (kk + 3)) :: vk :: vl :: .bool (mm.tmod 3 == 0) :: .string xs[i].data :: (c3 ++ tl))) 0 rfl
    revert K10
    generalize h9.set n (.cells (c1 ++ (.int .i64 kk :: .int .i64 (kk + 1) :: .int .i64 (kk + 2) :: .string (mt (kk + 3)) :: vk :: vl :: .bool (mm.tmod 3 == 0) :: .string xs[i].data :: (c3 ++ tl))) 8 p true) = h10
    intro K10
    refine callT_of (c67 (by omega) (by omega)) ?_
    rintro r h11 - ⟨ext11, rfl⟩
    have K11 := K10.go0 ext11.st
    have b11 := K11.bx 0 rfl
    simp -dsimp -implicitDefEqProofs (disch := omega) only [Z00, Z01, Z02, Z03, Z04, Z05, Z06, Z07, Z08, Z09, Z0a, Z0b, Z0c, Z0d, Z0e, Z0f, Z0g, Z0h, Z0i, Z0j, Z0k, Z2b, Z2c, Z0m, Z0n, Z0o, Z0p, Z0q, Z0r, Z0s, Z0t, Z0u, Z0v, Z0w, Z0x, Z0y, Z0z, Z10, Z11, Z12, Z13, Z14, Z15, Z16, Z17, Z18, Z19, ↓reduceIte, Nat.reduceEqDiff, Z1a, Z1b, Z1c, Z1d, Z1e, Z1f, Z1g, Z1h, Z1i, Z1j, Z1k, Z1l, Z1m, Z1n, Z1o, Z1p, Z1q, Z1r, Z1s, Z1t, Z1u, Z1v, Z1w, Z1x, Z1y, Z1z, Z20, Z21, Z22, Z23, Z24, Z25, Z26, Z27, Z28, Z29, Z2a, Z2d, retK, resC, resV, Z2h, Z2i, Z2j, Z2k, Z2l, Z2m, Z2n, Z2o, Z2p, Z2q, Z2r, Z2s, Z2t, Z2u, Z2v, Z2w, Z2x, Nat.reduceAdd, Nat.reduceLT, Nat.reduceLeDiff, Z2y, Z2z, Z30, Z31, Z32, Z33, Z34, Z35, Z36, Z37, Z38, Z39, m66_1, m66_2, m66, e0, e1, e5, d2, s_iaddr (Int.natCast_nonneg i) hiw, b11, st_mid8 hq (x := .string _) rfl, set_set, Nat.add_assoc]
    have K12 := K11.set (cs' := c1 ++ (.int .i64 kk :: .int .i64 (kk + 1) :: .int .i64 (kk + 2) :: .string (mt (kk + 3)) :: vk :: vl :: .bool (mm.tmod 3 == 0) :: .string (mt (mm + 1)) :: (c3 ++ tl))) 0 rfl
    revert K12
    generalize h11.set n (.cells (c1 ++ (.int .i64 kk :: .int .i64 (kk + 1) :: .int .i64 (kk + 2) :: .string (mt (kk + 3)) :: vk :: vl :: .bool (mm.tmod 3 == 0) :: .string (mt (mm + 1)) :: (c3 ++ tl))) 8 p true) = h12
    intro K12
    have K13 : St h F (.bx n (c1 ++ ([.int .i64 kk, .int .i64 (kk + 1), .int .i64 (kk + 2), .string (mt (kk + 3)), vk, vl, .bool (mm.tmod 3 == 0), .string (mt (mm + 1))] ++ (c3 ++ tl))) 8 p :: .ow (.str ((ys.map encI).take i)) c1 F1 :: .ow (encI ⟨kk, .mk (kk + 1) (kk + 2) (mt (kk + 3)) (mkK ks (kk + 4)) (markL kd (kk + (4 + ks.length))), mm.tmod 3 == 0, mt (mm + 1)⟩) [.int .i64 kk, .int .i64 (kk + 1), .int .i64 (kk + 2), .string (mt (kk + 3)), vk, vl, .bool (mm.tmod 3 == 0), .string (mt (mm + 1))] (Fk ++ Fl) :: .ow (.str ((ys.map encI).drop (i + 1))) c3 F3 :: []) h12 := by
      refine K12.swap ?_ ⟨K12.ok.1, K12.ok.2.1, ?_, K12.ok.2.2.2.2.1, trivial⟩
      · simp only [feet, It.foot, List.append_assoc, List.set_cons_zero, List.set_cons_succ]
        exact .refl _
      · have nd := K12.nd
        simp only [feet, It.foot, List.set_cons_zero, List.set_cons_succ, List.cons_append, List.nil_append, List.append_nil] at nd
        have nd2 := (List.nodup_append.1 (List.nodup_cons.1 nd).2).2.1
        exact own_item (x := ⟨kk, .mk (kk + 1) (kk + 2) (mt (kk + 3)) (mkK ks (kk + 4)) (markL kd (kk + (4 + ks.length))), mm.tmod 3 == 0, mt (mm + 1)⟩) (own_obj (K12.ow 2 rfl) (K12.ow 3 rfl) (fun a ha hb => (List.nodup_append.1 nd2).2.2 a ha a (List.mem_append_left _ hb) rfl))
    have K14 := K13.shut (cap := cv) (fun a ha => by
      rcases List.mem_append.1 ha with ha | ha
      · exact hwd a (List.mem_of_mem_take ha)
      · rcases List.mem_cons.1 ha with rfl | ha
        · exact wid_item _
        · exact hwd a (List.mem_of_mem_drop ha)) (by simpa using hcl)
    have hys : (ys.map encI).take i ++ encI ⟨kk, .mk (kk + 1) (kk + 2) (mt (kk + 3)) (mkK ks (kk + 4)) (markL kd (kk + (4 + ks.length))), mm.tmod 3 == 0, mt (mm + 1)⟩ :: (ys.map encI).drop (i + 1) = (ys.take i ++ ⟨kk, .mk (kk + 1) (kk + 2) (mt (kk + 3)) (mkK ks (kk + 4)) (markL kd (kk + (4 + ks.length))), mm.tmod 3 == 0, mt (mm + 1)⟩ :: ys.drop (i + 1)).map encI := by
      simp [List.map_take, List.map_drop]
    have hyl : (ys.take i ++ (⟨kk, .mk (kk + 1) (kk + 2) (mt (kk + 3)) (mkK ks (kk + 4)) (markL kd (kk + (4 + ks.length))), mm.tmod 3 == 0, mt (mm + 1)⟩ : IT) :: ys.drop (i + 1)).length = xs.length := by
      simp; omega
    rw [hys, List.length_map, hyl] at K14
    refine ⟨⟨i + 1, _, _, K14, hyl, ?_, by omega, by trivial, ?_, rfl⟩, by simp only [intOf]; omega⟩
    · have e1 : (ys.take i).length = i := by simp; omega
      have := congrArg (List.drop 1) hdy
      rw [List.drop_drop, List.drop_drop] at this
      rw [← this, List.drop_append, e1]
      have e2 : i + 1 - i = 1 := by omega
      rw [e2, List.drop_of_length_le (by omega)]
      simp
    · rw [hstep, hcnt]; congr 1; push_cast; omega
  · have d2 : decide ((i : Int) < xs.length) = false := by simp; omega
    have : i = xs.length := by omega
    subst this
    rw [List.take_length] at e1
    simp -dsimp -implicitDefEqProofs (disch := omega) only [Z00, Z01, Z02, Z03, Z04, Z05, Z06, Z07, Z08, Z09, Z0a, Z0b, Z0c, Z0d, Z0e, Z0f, Z0g, Z0h, Z0i, Z0j, Z0k, Z2b, Z2c, Z0m, Z0n, Z0o, Z0p, Z0q, Z0r, Z0s, Z0t, Z0u, Z0v, Z0w, Z0x, Z0y, Z0z, Z10, Z11, Z12, Z13, Z14, Z15, Z16, Z17, Z18, Z19, ↓reduceIte, Nat.reduceEqDiff, Z1a, Z1b, Z1c, Z1d, Z1e, Z1f, Z1g, Z1h, Z1i, Z1j, Z1k, Z1l, Z1m, Z1n, Z1o, Z1p, Z1q, Z1r, Z1s, Z1t, Z1u, Z1v, Z1w, Z1x, Z1y, Z1z, Z20, Z21, Z22, Z23, Z24, Z25, Z26, Z27, Z28, Z29, Z2a, Z2d, retK, resC, resV, Z2h, Z2i, Z2j, Z2k, Z2l, Z2m, Z2n, Z2o, Z2p, Z2q, Z2r, Z2s, Z2t, Z2u, Z2v, Z2w, Z2x, Nat.reduceAdd, Nat.reduceLT, Nat.reduceLeDiff, Z2y, Z2z, Z30, Z31, Z32, Z33, Z34, Z35, Z36, Z37, Z38, Z39, m66_1, m66_2, m66, e0, e1, e5, d2]
    exact ⟨K2.chg, trivial⟩

theorem c26 {h : CH} {cs : List Value} {xs : List IT} {root : Int} {F : List Nat} {k : Int} (hs : Own h (encDoc xs root) cs F) (hF : ∀ n ∈ F, n < h.size) (k0 : 0 ≤ k) (k1 : k + cntIs xs ≤ 4294967296) (hb : xs.length ≤ 1048576) :
    callW Try.prog 26 [.agg cs.toArray, .int .i64 k] h fun r h' => St h F [] h' ∧ r = .int .i64 (k + cntIs xs) := by
  refine callW_of (wf _) Try.func26 m26_ok (by simp [m26]) ?_
  have hones := hs.rd.ones
  obtain ⟨v, rfl, ho⟩ : ∃ v, cs = [v, .int .i64 root] ∧ Own h (encIs xs) [v] F := by
    obtain ⟨v, rfl, _⟩ := hs.rd.doc
    refine ⟨v, rfl, ?_⟩
    have g := hs
    simp only [encDoc] at g
    rw [Own, Owns] at g
    obtain ⟨c1, r1, F1, R1, e, rfl, _, g1, g⟩ := g
    have l1 := g1.len
    simp only [encIs, wid] at l1
    obtain ⟨u, rfl⟩ := List.length_eq_one_iff.1 l1
    simp only [List.cons_append, List.nil_append, List.cons.injEq] at e
    obtain ⟨rfl, rfl⟩ := e
    rw [Owns] at g
    obtain ⟨c2, r2, F2, R2, e, rfl, _, g2, g⟩ := g
    rw [Owns] at g
    obtain ⟨rfl, rfl⟩ := g
    simp only [Own] at g2
    obtain ⟨_, _, rfl⟩ := g2
    simpa using g1
  simp -dsimp -implicitDefEqProofs (disch := omega) only [Z00, Z01, Z02, Z03, Z04, Z05, Z06, Z07, Z08, Z09, Z0a, Z0b, Z0c, Z0d, Z0e, Z0f, Z0g, Z0h, Z0i, Z0j, Z0k, Z2b, Z2c, Z0m, Z0n, Z0o, Z0p, Z0q, Z0r, Z0s, Z0t, Z0u, Z0v, Z0w, Z0x, Z0y, Z0z, Z10, Z11, Z12, Z13, Z14, Z15, Z16, Z17, Z18, Z19, ↓reduceIte, Nat.reduceEqDiff, Z1a, Z1b, Z1c, Z1d, Z1e, Z1f, Z1g, Z1h, Z1i, Z1j, Z1k, Z1l, Z1m, Z1n, Z1o, Z1p, Z1q, Z1r, Z1s, Z1t, Z1u, Z1v, Z1w, Z1x, Z1y, Z1z, Z20, Z21, Z22, Z23, Z24, Z25, Z26, Z27, Z28, Z29, Z2a, Z2d, retK, resC, resV, Z2h, Z2i, Z2j, Z2k, Z2l, Z2m, Z2n, Z2o, Z2p, Z2q, Z2r, Z2s, Z2t, Z2u, Z2v, Z2w, Z2x, Nat.reduceAdd, Nat.reduceLT, Nat.reduceLeDiff, Z2y, Z2z, Z30, Z31, Z32, Z33, Z34, Z35, Z36, Z37, Z38, Z39, m26]
  rw [s_box hones]
  have K0 : St h F [.ow (encIs xs) [v] F] h := by
    have := St.start (T := [.ow (encIs xs) [v] F]) (h := h) ⟨ho, trivial⟩ (by simpa [feet, It.foot] using ho.nodup) (by simpa [feet, It.foot] using hF)
    simpa [feet, It.foot] using this
  have K1 := K0.box (cs := [v, .int .i64 root]) (k := 2) (p := false)
  revert K1
  generalize h.push (.cells [v, .int .i64 root] 2 false true) = h1
  intro K1
  have b1 := K1.bx 1 rfl
  simp -dsimp -implicitDefEqProofs (disch := omega) only [Z00, Z01, Z02, Z03, Z04, Z05, Z06, Z07, Z08, Z09, Z0a, Z0b, Z0c, Z0d, Z0e, Z0f, Z0g, Z0h, Z0i, Z0j, Z0k, Z2b, Z2c, Z0m, Z0n, Z0o, Z0p, Z0q, Z0r, Z0s, Z0t, Z0u, Z0v, Z0w, Z0x, Z0y, Z0z, Z10, Z11, Z12, Z13, Z14, Z15, Z16, Z17, Z18, Z19, ↓reduceIte, Nat.reduceEqDiff, Z1a, Z1b, Z1c, Z1d, Z1e, Z1f, Z1g, Z1h, Z1i, Z1j, Z1k, Z1l, Z1m, Z1n, Z1o, Z1p, Z1q, Z1r, Z1s, Z1t, Z1u, Z1v, Z1w, Z1x, Z1y, Z1z, Z20, Z21, Z22, Z23, Z24, Z25, Z26, Z27, Z28, Z29, Z2a, Z2d, retK, resC, resV, Z2h, Z2i, Z2j, Z2k, Z2l, Z2m, Z2n, Z2o, Z2p, Z2q, Z2r, Z2s, Z2t, Z2u, Z2v, Z2w, Z2x, Nat.reduceAdd, Nat.reduceLT, Nat.reduceLeDiff, Z2y, Z2z, Z30, Z31, Z32, Z33, Z34, Z35, Z36, Z37, Z38, Z39, m26, b1]
  refine callT_of (c66 (K1.ow 0 rfl) (K1.lt 0 rfl) k0 k1 hb) ?_
  rintro r h2 - ⟨ch, rfl⟩
  have J : St h1 F [] h2 := ⟨ch.1, ch.2, trivial, List.nodup_nil, fun _ q => by cases q⟩
  have K2 := K1.gone (i := 0) rfl J
  simp -dsimp -implicitDefEqProofs (disch := omega) only [Z00, Z01, Z02, Z03, Z04, Z05, Z06, Z07, Z08, Z09, Z0a, Z0b, Z0c, Z0d, Z0e, Z0f, Z0g, Z0h, Z0i, Z0j, Z0k, Z2b, Z2c, Z0m, Z0n, Z0o, Z0p, Z0q, Z0r, Z0s, Z0t, Z0u, Z0v, Z0w, Z0x, Z0y, Z0z, Z10, Z11, Z12, Z13, Z14, Z15, Z16, Z17, Z18, Z19, ↓reduceIte, Nat.reduceEqDiff, Z1a, Z1b, Z1c, Z1d, Z1e, Z1f, Z1g, Z1h, Z1i, Z1j, Z1k, Z1l, Z1m, Z1n, Z1o, Z1p, Z1q, Z1r, Z1s, Z1t, Z1u, Z1v, Z1w, Z1x, Z1y, Z1z, Z20, Z21, Z22, Z23, Z24, Z25, Z26, Z27, Z28, Z29, Z2a, Z2d, retK, resC, resV, Z2h, Z2i, Z2j, Z2k, Z2l, Z2m, Z2n, Z2o, Z2p, Z2q, Z2r, Z2s, Z2t, Z2u, Z2v, Z2w, Z2x, Nat.reduceAdd, Nat.reduceLT, Nat.reduceLeDiff, Z2y, Z2z, Z30, Z31, Z32, Z33, Z34, Z35, Z36, Z37, Z38, Z39, m26]
  exact ⟨K2.sub (List.nil_sublist _), trivial⟩

theorem c27 {h : CH} {cs : List Value} {x : IT} {F : List Nat} {k : Int} (hs : Own h (encI x) cs F) (hF : ∀ n ∈ F, n < h.size) (k0 : 0 ≤ k) (k1 : k + cntO x.body ≤ 4294967296) :
    callW Try.prog 27 [.agg cs.toArray, .int .i64 k] h fun r h' => St h F [.ow (encI { x with body := markO x.body k }) cs F] h' ∧ r = .int .i64 (k + cntO x.body) := by
  refine callW_of (wf _) Try.func27 m27_ok (by simp [m27]) ?_
  have hones := hs.rd.ones
  obtain ⟨a, b, t, ks, kd, vk, vl, Fk, Fl, eb, rfl, rfl, ok, ol⟩ := own_item_inv hs
  have nd := hs.nodup
  have hd : ∀ n ∈ Fk, n ∉ Fl := fun n h1 h2 => (List.nodup_append.1 nd).2.2 n h1 n h2 rfl
  have ob : Own h (encO x.body) [.int .i64 a, .int .i64 b, .string t, vk, vl] (Fk ++ Fl) := by rw [eb]; exact own_obj ok ol hd
  simp -dsimp -implicitDefEqProofs (disch := omega) only [Z00, Z01, Z02, Z03, Z04, Z05, Z06, Z07, Z08, Z09, Z0a, Z0b, Z0c, Z0d, Z0e, Z0f, Z0g, Z0h, Z0i, Z0j, Z0k, Z2b, Z2c, Z0m, Z0n, Z0o, Z0p, Z0q, Z0r, Z0s, Z0t, Z0u, Z0v, Z0w, Z0x, Z0y, Z0z, Z10, Z11, Z12, Z13, Z14, Z15, Z16, Z17, Z18, Z19, ↓reduceIte, Nat.reduceEqDiff, Z1a, Z1b, Z1c, Z1d, Z1e, Z1f, Z1g, Z1h, Z1i, Z1j, Z1k, Z1l, Z1m, Z1n, Z1o, Z1p, Z1q, Z1r, Z1s, Z1t, Z1u, Z1v, Z1w, Z1x, Z1y, Z1z, Z20, Z21, Z22, Z23, Z24, Z25, Z26, Z27, Z28, Z29, Z2a, Z2d, retK, resC, resV, Z2h, Z2i, Z2j, Z2k, Z2l, Z2m, Z2n, Z2o, Z2p, Z2q, Z2r, Z2s, Z2t, Z2u, Z2v, Z2w, Z2x, Nat.reduceAdd, Nat.reduceLT, Nat.reduceLeDiff, Z2y, Z2z, Z30, Z31, Z32, Z33, Z34, Z35, Z36, Z37, Z38, Z39, m27]
  rw [s_box hones]
  have K0 : St h (Fk ++ Fl) [.ow (encO x.body) [.int .i64 a, .int .i64 b, .string t, vk, vl] (Fk ++ Fl)] h := by
    have := St.start (T := [.ow (encO x.body) [.int .i64 a, .int .i64 b, .string t, vk, vl] (Fk ++ Fl)]) (h := h) ⟨ob, trivial⟩ (by simpa [feet, It.foot] using nd) (by simpa [feet, It.foot] using hF)
    simpa [feet, It.foot] using this
  have K1 := K0.box (cs := [.int .i64 x.num, .int .i64 a, .int .i64 b, .string t, vk, vl, .bool x.has, .string x.data]) (k := 8) (p := false)
  revert K1
  generalize h.push (.cells [.int .i64 x.num, .int .i64 a, .int .i64 b, .string t, vk, vl, .bool x.has, .string x.data] 8 false true) = h1
  intro K1
  have b1 := K1.bx 1 rfl
  simp -dsimp -implicitDefEqProofs (disch := omega) only [Z00, Z01, Z02, Z03, Z04, Z05, Z06, Z07, Z08, Z09, Z0a, Z0b, Z0c, Z0d, Z0e, Z0f, Z0g, Z0h, Z0i, Z0j, Z0k, Z2b, Z2c, Z0m, Z0n, Z0o, Z0p, Z0q, Z0r, Z0s, Z0t, Z0u, Z0v, Z0w, Z0x, Z0y, Z0z, Z10, Z11, Z12, Z13, Z14, Z15, Z16, Z17, Z18, Z19, ↓reduceIte, Nat.reduceEqDiff, Z1a, Z1b, Z1c, Z1d, Z1e, Z1f, Z1g, Z1h, Z1i, Z1j, Z1k, Z1l, Z1m, Z1n, Z1o, Z1p, Z1q, Z1r, Z1s, Z1t, Z1u, Z1v, Z1w, Z1x, Z1y, Z1z, Z20, Z21, Z22, Z23, Z24, Z25, Z26, Z27, Z28, Z29, Z2a, Z2d, retK, resC, resV, Z2h, Z2i, Z2j, Z2k, Z2l, Z2m, Z2n, Z2o, Z2p, Z2q, Z2r, Z2s, Z2t, Z2u, Z2v, Z2w, Z2x, Nat.reduceAdd, Nat.reduceLT, Nat.reduceLeDiff, Z2y, Z2z, Z30, Z31, Z32, Z33, Z34, Z35, Z36, Z37, Z38, Z39, m27, b1, ld15]
  refine callT_of (c12 (K1.ow 0 rfl) (K1.lt 0 rfl) k0 k1) ?_
  rintro r h2 - ⟨ch, rfl, own2⟩
  have K2 := K1.at (i := 0) rfl (ch.st own2 (K1.lt 0 rfl))
  simp -dsimp -implicitDefEqProofs (disch := omega) only [Z00, Z01, Z02, Z03, Z04, Z05, Z06, Z07, Z08, Z09, Z0a, Z0b, Z0c, Z0d, Z0e, Z0f, Z0g, Z0h, Z0i, Z0j, Z0k, Z2b, Z2c, Z0m, Z0n, Z0o, Z0p, Z0q, Z0r, Z0s, Z0t, Z0u, Z0v, Z0w, Z0x, Z0y, Z0z, Z10, Z11, Z12, Z13, Z14, Z15, Z16, Z17, Z18, Z19, ↓reduceIte, Nat.reduceEqDiff, Z1a, Z1b, Z1c, Z1d, Z1e, Z1f, Z1g, Z1h, Z1i, Z1j, Z1k, Z1l, Z1m, Z1n, Z1o, Z1p, Z1q, Z1r, Z1s, Z1t, Z1u, Z1v, Z1w, Z1x, Z1y, Z1z, Z20, Z21, Z22, Z23, Z24, Z25, Z26, Z27, Z28, Z29, Z2a, Z2d, retK, resC, resV, Z2h, Z2i, Z2j, Z2k, Z2l, Z2m, Z2n, Z2o, Z2p, Z2q, Z2r, Z2s, Z2t, Z2u, Z2v, Z2w, Z2x, Nat.reduceAdd, Nat.reduceLT, Nat.reduceLeDiff, Z2y, Z2z, Z30, Z31, Z32, Z33, Z34, Z35, Z36, Z37, Z38, Z39, m27]
  refine ⟨?_, trivial⟩
  refine (K2.sub (.cons_cons _ (.cons _ .slnil)) (T' := [.ow (encO (markO x.body k)) [.int .i64 a, .int .i64 b, .string t, vk, vl] (Fk ++ Fl)])).swap (by simp [feet, It.foot]) ⟨?_, trivial⟩
  exact own_item (x := { x with body := markO x.body k }) (K2.ow 0 rfl)

theorem c28 {h : CH} {S : Nat → Prop} {cs : List Value} {x : IT} {o : OT} {k : Int} (hs : Rd h S (encI { x with body := markO o k }) cs) (hS : ∀ n, S n → n < h.size) (k0 : 0 ≤ k) (k1 : k + cntO o ≤ 4294967296) :
    callW Try.prog 28 [.agg cs.toArray, .int .i64 k] h fun r h' => Ext h h' ∧ r = .int .i64 (k + cntO o) := by
  refine callW_of (wf _) Try.func28 m28_ok (by simp [m28]) ?_
  have hones := hs.ones
  obtain ⟨a, b, t, vk, vl, rfl, hb⟩ := hs.item
  simp -dsimp -implicitDefEqProofs (disch := omega) only [Z00, Z01, Z02, Z03, Z04, Z05, Z06, Z07, Z08, Z09, Z0a, Z0b, Z0c, Z0d, Z0e, Z0f, Z0g, Z0h, Z0i, Z0j, Z0k, Z2b, Z2c, Z0m, Z0n, Z0o, Z0p, Z0q, Z0r, Z0s, Z0t, Z0u, Z0v, Z0w, Z0x, Z0y, Z0z, Z10, Z11, Z12, Z13, Z14, Z15, Z16, Z17, Z18, Z19, ↓reduceIte, Nat.reduceEqDiff, Z1a, Z1b, Z1c, Z1d, Z1e, Z1f, Z1g, Z1h, Z1i, Z1j, Z1k, Z1l, Z1m, Z1n, Z1o, Z1p, Z1q, Z1r, Z1s, Z1t, Z1u, Z1v, Z1w, Z1x, Z1y, Z1z, Z20, Z21, Z22, Z23, Z24, Z25, Z26, Z27, Z28, Z29, Z2a, Z2d, retK, resC, resV, Z2h, Z2i, Z2j, Z2k, Z2l, Z2m, Z2n, Z2o, Z2p, Z2q, Z2r, Z2s, Z2t, Z2u, Z2v, Z2w, Z2x, Nat.reduceAdd, Nat.reduceLT, Nat.reduceLeDiff, Z2y, Z2z, Z30, Z31, Z32, Z33, Z34, Z35, Z36, Z37, Z38, Z39, m28_1, m28]
  rw [s_box hones]
  have K1 := (St.nil h).box (cs := [.int .i64 x.num, .int .i64 a, .int .i64 b, .string t, vk, vl, .bool x.has, .string x.data]) (k := 8) (p := false)
  revert K1
  generalize h.push (.cells [.int .i64 x.num, .int .i64 a, .int .i64 b, .string t, vk, vl, .bool x.has, .string x.data] 8 false true) = h1
  intro K1
  have b1 := K1.bx 0 rfl
  have hS0 : Safe S h [] := Safe.of hS
  simp -dsimp -implicitDefEqProofs (disch := omega) only [Z00, Z01, Z02, Z03, Z04, Z05, Z06, Z07, Z08, Z09, Z0a, Z0b, Z0c, Z0d, Z0e, Z0f, Z0g, Z0h, Z0i, Z0j, Z0k, Z2b, Z2c, Z0m, Z0n, Z0o, Z0p, Z0q, Z0r, Z0s, Z0t, Z0u, Z0v, Z0w, Z0x, Z0y, Z0z, Z10, Z11, Z12, Z13, Z14, Z15, Z16, Z17, Z18, Z19, ↓reduceIte, Nat.reduceEqDiff, Z1a, Z1b, Z1c, Z1d, Z1e, Z1f, Z1g, Z1h, Z1i, Z1j, Z1k, Z1l, Z1m, Z1n, Z1o, Z1p, Z1q, Z1r, Z1s, Z1t, Z1u, Z1v, Z1w, Z1x, Z1y, Z1z, Z20, Z21, Z22, Z23, Z24, Z25, Z26, Z27, Z28, Z29, Z2a, Z2d, retK, resC, resV, Z2h, Z2i, Z2j, Z2k, Z2l, Z2m, Z2n, Z2o, Z2p, Z2q, Z2r, Z2s, Z2t, Z2u, Z2v, Z2w, Z2x, Nat.reduceAdd, Nat.reduceLT, Nat.reduceLeDiff, Z2y, Z2z, Z30, Z31, Z32, Z33, Z34, Z35, Z36, Z37, Z38, Z39, m28_1, m28, b1, ld15]
  refine callT_of (c13 (K1.rd hb hS0) (K1.safe0 hS0).lt k0 k1) ?_
  rintro r h2 - ⟨ext2, rfl⟩
  have d1 : decide ((k : Int) + cntO o < 0) = false := by simp; omega
  simp -dsimp -implicitDefEqProofs (disch := omega) only [Z00, Z01, Z02, Z03, Z04, Z05, Z06, Z07, Z08, Z09, Z0a, Z0b, Z0c, Z0d, Z0e, Z0f, Z0g, Z0h, Z0i, Z0j, Z0k, Z2b, Z2c, Z0m, Z0n, Z0o, Z0p, Z0q, Z0r, Z0s, Z0t, Z0u, Z0v, Z0w, Z0x, Z0y, Z0z, Z10, Z11, Z12, Z13, Z14, Z15, Z16, Z17, Z18, Z19, ↓reduceIte, Nat.reduceEqDiff, Z1a, Z1b, Z1c, Z1d, Z1e, Z1f, Z1g, Z1h, Z1i, Z1j, Z1k, Z1l, Z1m, Z1n, Z1o, Z1p, Z1q, Z1r, Z1s, Z1t, Z1u, Z1v, Z1w, Z1x, Z1y, Z1z, Z20, Z21, Z22, Z23, Z24, Z25, Z26, Z27, Z28, Z29, Z2a, Z2d, retK, resC, resV, Z2h, Z2i, Z2j, Z2k, Z2l, Z2m, Z2n, Z2o, Z2p, Z2q, Z2r, Z2s, Z2t, Z2u, Z2v, Z2w, Z2x, Nat.reduceAdd, Nat.reduceLT, Nat.reduceLeDiff, Z2y, Z2z, Z30, Z31, Z32, Z33, Z34, Z35, Z36, Z37, Z38, Z39, m28_1, m28, d1]
  exact ⟨K1.ext.trans ext2, trivial⟩

/-! ### Sizes that were let through -/
theorem szI_sm {x : IT} {l : Int} (l0 : 0 ≤ l) (l1 : l ≤ 1048576) (h : 0 ≤ szI x l) : smO x.body ∧ (cntI x : Int) ≤ 6 + 4 * (l - szI x l) := by
  unfold szI at h ⊢
  split at h
  · omega
  · rename_i q
    rw [if_neg q]
    split at h
    · omega
    · rename_i q2
      rw [if_neg q2]
      have := sm_of_sz x.body l l0 (by omega) l1
      refine ⟨this.1, ?_⟩
      have := this.2
      simp only [cntI]
      push_cast
      omega
theorem szIs_sm : ∀ (xs : List IT) (l : Int), 0 ≤ l → l ≤ 1048576 → 0 ≤ szIs xs l → (∀ x ∈ xs, smO x.body) ∧ (cntIs xs : Int) ≤ 6 * xs.length + 4 * (l - szIs xs l)
  | [], l, _, _, _ => by simp [cntIs, szIs]
  | x :: r, l, l0, l1, h => by
    simp only [szIs] at h ⊢
    split at h
    · omega
    · rename_i q
      rw [if_neg q]
      have hle := szI_le x l l0
      have a := szI_sm (x := x) l0 l1 (by omega)
      have b := szIs_sm r (szI x l) (by omega) (by omega) h
      refine ⟨fun y hy => ?_, ?_⟩
      · rcases List.mem_cons.1 hy with rfl | hy
        · exact a.1
        · exact b.1 y hy
      · have := a.2
        have := b.2
        simp only [cntIs, List.length_cons]
        push_cast
        omega
theorem szD_sm {xs : List IT} (h0 : okIs0 xs) (h : 0 ≤ szD xs 1048576) : okIs xs ∧ cntIs xs ≤ 16777216 := by
  unfold szD at h
  split at h
  · omega
  · have hle := szIs_le xs (1048576 - xs.length) (by omega)
    have := szIs_sm xs _ (by omega) (by omega) h
    refine ⟨⟨by omega, fun x hx => ⟨(h0.2 x hx).1, this.1 x hx, (h0.2 x hx).2⟩⟩, ?_⟩
    have := this.2
    omega
end Go.Proofs.Ytdfmdclfnhgjiaa.Can
