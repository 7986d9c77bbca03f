/- Objects of the documents: where a key stands.
   Conditions: those that each law names. -/
import Derived.Test.YtdfmdclfnhgjiaaObD
set_option linter.unusedVariables false
set_option linter.unusedSimpArgs false
namespace Go.Proofs.Ytdfmdclfnhgjiaa.Can
open Go

def ixFrom : List ByteArray → ByteArray → Nat → Int
  | [], _, _ => -1
  | s :: r, key, i => if s = key then i else ixFrom r key (i + 1)
theorem ixFrom_range : ∀ (ks : List ByteArray) (key : ByteArray) (i : Nat), ixFrom ks key i = -1 ∨ ∃ j : Nat, ixFrom ks key i = j ∧ i ≤ j ∧ j < i + ks.length
  | [], key, i => .inl rfl
  | s :: r, key, i => by
    simp only [ixFrom]
    split
    · exact .inr ⟨i, rfl, by omega, by simp⟩
    · rcases ixFrom_range r key (i + 1) with e | ⟨j, e, h1, h2⟩
      · exact .inl e
      · exact .inr ⟨j, e, by omega, by simp only [List.length_cons]; omega⟩

theorem c35 {h : CH} {S : Nat → Prop} {v : Value} {ks : List ByteArray} {key : ByteArray} (hs : Rd h S (encK ks) [v]) (hb : ks.length ≤ 1048576) :
    callW Try.prog 35 [v, .string key] h fun r h' => h' = h ∧ r = .int .i64 (ixFrom ks key 0) := by
  refine callW_of (wf _) Try.func35 m35_ok (by simp [m35]) ?_
  obtain ⟨a, cap, rfl, hel⟩ := hs.slice
  simp only [List.length_map] at hel ⊢
  simp -dsimp -implicitDefEqProofs only [wpC_skip, wpC_reg, wpC_draw, wpC_seq, wpC_cond, wpC_loopT, wpC_block, wpC_exit, wpC_ret, seqK_normal, seqK_exit, seqK_ret, blockK_normal, blockK_exit, blockK_ret, opsW_nil, opsW_cons, opsW_guard, drawW_nil, drawW_cons, drawW_re, drawW_guard, reW_nil, reW_cons, reW_guard,
    ev_tmp, ev_const, ev_func, upd_none, upd_get, oW_some, oT_some, entry_0, entry_1, entry_2, entry_3, entry_4, hW_some, pW_some, condW_bool, guardW_t, guardW_f, ifW_true, ifW_false, List.map_cons, List.map_nil, ↓reduceIte, Nat.reduceEqDiff, 
    s_mov, s_pick, s_add, s_sub, s_mul, s_eql, s_neq, s_lss, s_leq, s_gtr, s_geq, s_seql, s_sneq, s_eqB, s_neB, s_not, s_neg, s_convI, s_convS, s_ext, s_fld1, s_fldA, s_lenS, s_lenL, s_faddr, s_alloc, g_load1, g_loadA, g_store, ldC_cells, r_load1, r_loadA, s_call, push_size, set_size, push_new, set_same, m35]
  refine loopT_of (wpC_loop (fun ρ h1 => ∃ (i : Nat), h1 = h ∧ i ≤ ks.length ∧ ρ 0 = .slice a ks.length cap ∧ ρ 1 = .string key ∧ ρ 7 = .int .i64 ks.length ∧ ρ 8 = .int .i64 i ∧ ixFrom ks key 0 = ixFrom (ks.drop i) key i)
      (fun ρ h1 => ks.length - intOf (ρ 8)) ⟨0, rfl, Nat.zero_le _, ?_, ?_, ?_, ?_, ?_⟩ ?_)
  · simp -dsimp -implicitDefEqProofs only [wpC_skip, wpC_reg, wpC_draw, wpC_seq, wpC_cond, wpC_loopT, wpC_block, wpC_exit, wpC_ret, seqK_normal, seqK_exit, seqK_ret, blockK_normal, blockK_exit, blockK_ret, opsW_nil, opsW_cons, opsW_guard, drawW_nil, drawW_cons, drawW_re, drawW_guard, reW_nil, reW_cons, reW_guard,
    ev_tmp, ev_const, ev_func, upd_none, upd_get, oW_some, oT_some, entry_0, entry_1, entry_2, entry_3, entry_4, hW_some, pW_some, condW_bool, guardW_t, guardW_f, ifW_true, ifW_false, List.map_cons, List.map_nil, ↓reduceIte, Nat.reduceEqDiff, 
    s_mov, s_pick, s_add, s_sub, s_mul, s_eql, s_neq, s_lss, s_leq, s_gtr, s_geq, s_seql, s_sneq, s_eqB, s_neB, s_not, s_neg, s_convI, s_convS, s_ext, s_fld1, s_fldA, s_lenS, s_lenL, s_faddr, s_alloc, g_load1, g_loadA, g_store, ldC_cells, r_load1, r_loadA, s_call, push_size, set_size, push_new, set_same]
  · simp -dsimp -implicitDefEqProofs only [wpC_skip, wpC_reg, wpC_draw, wpC_seq, wpC_cond, wpC_loopT, wpC_block, wpC_exit, wpC_ret, seqK_normal, seqK_exit, seqK_ret, blockK_normal, blockK_exit, blockK_ret, opsW_nil, opsW_cons, opsW_guard, drawW_nil, drawW_cons, drawW_re, drawW_guard, reW_nil, reW_cons, reW_guard,
    ev_tmp, ev_const, ev_func, upd_none, upd_get, oW_some, oT_some, entry_0, entry_1, entry_2, entry_3, entry_4, hW_some, pW_some, condW_bool, guardW_t, guardW_f, ifW_true, ifW_false, List.map_cons, List.map_nil, ↓reduceIte, Nat.reduceEqDiff, 
    s_mov, s_pick, s_add, s_sub, s_mul, s_eql, s_neq, s_lss, s_leq, s_gtr, s_geq, s_seql, s_sneq, s_eqB, s_neB, s_not, s_neg, s_convI, s_convS, s_ext, s_fld1, s_fldA, s_lenS, s_lenL, s_faddr, s_alloc, g_load1, g_loadA, g_store, ldC_cells, r_load1, r_loadA, s_call, push_size, set_size, push_new, set_same]
  · simp -dsimp -implicitDefEqProofs only [wpC_skip, wpC_reg, wpC_draw, wpC_seq, wpC_cond, wpC_loopT, wpC_block, wpC_exit, wpC_ret, seqK_normal, seqK_exit, seqK_ret, blockK_normal, blockK_exit, blockK_ret, opsW_nil, opsW_cons, opsW_guard, drawW_nil, drawW_cons, drawW_re, drawW_guard, reW_nil, reW_cons, reW_guard,
    ev_tmp, ev_const, ev_func, upd_none, upd_get, oW_some, oT_some, entry_0, entry_1, entry_2, entry_3, entry_4, hW_some, pW_some, condW_bool, guardW_t, guardW_f, ifW_true, ifW_false, List.map_cons, List.map_nil, ↓reduceIte, Nat.reduceEqDiff, 
    s_mov, s_pick, s_add, s_sub, s_mul, s_eql, s_neq, s_lss, s_leq, s_gtr, s_geq, s_seql, s_sneq, s_eqB, s_neB, s_not, s_neg, s_convI, s_convS, s_ext, s_fld1, s_fldA, s_lenS, s_lenL, s_faddr, s_alloc, g_load1, g_loadA, g_store, ldC_cells, r_load1, r_loadA, s_call, push_size, set_size, push_new, set_same]
  · simp -dsimp -implicitDefEqProofs only [wpC_skip, wpC_reg, wpC_draw, wpC_seq, wpC_cond, wpC_loopT, wpC_block, wpC_exit, wpC_ret, seqK_normal, seqK_exit, seqK_ret, blockK_normal, blockK_exit, blockK_ret, opsW_nil, opsW_cons, opsW_guard, drawW_nil, drawW_cons, drawW_re, drawW_guard, reW_nil, reW_cons, reW_guard,
    ev_tmp, ev_const, ev_func, upd_none, upd_get, oW_some, oT_some, entry_0, entry_1, entry_2, entry_3, entry_4, hW_some, pW_some, condW_bool, guardW_t, guardW_f, ifW_true, ifW_false, List.map_cons, List.map_nil, ↓reduceIte, Nat.reduceEqDiff, 
    s_mov, s_pick, s_add, s_sub, s_mul, s_eql, s_neq, s_lss, s_leq, s_gtr, s_geq, s_seql, s_sneq, s_eqB, s_neB, s_not, s_neg, s_convI, s_convS, s_ext, s_fld1, s_fldA, s_lenS, s_lenL, s_faddr, s_alloc, g_load1, g_loadA, g_store, ldC_cells, r_load1, r_loadA, s_call, push_size, set_size, push_new, set_same]; rfl
  · simp
  rintro ρ h1 ⟨i, rfl, hi, e0, e1, e7, e8, hix⟩
  simp -dsimp -implicitDefEqProofs only [wpC_skip, wpC_reg, wpC_draw, wpC_seq, wpC_cond, wpC_loopT, wpC_block, wpC_exit, wpC_ret, seqK_normal, seqK_exit, seqK_ret, blockK_normal, blockK_exit, blockK_ret, opsW_nil, opsW_cons, opsW_guard, drawW_nil, drawW_cons, drawW_re, drawW_guard, reW_nil, reW_cons, reW_guard,
    ev_tmp, ev_const, ev_func, upd_none, upd_get, oW_some, oT_some, entry_0, entry_1, entry_2, entry_3, entry_4, hW_some, pW_some, condW_bool, guardW_t, guardW_f, ifW_true, ifW_false, List.map_cons, List.map_nil, ↓reduceIte, Nat.reduceEqDiff, 
    s_mov, s_pick, s_add, s_sub, s_mul, s_eql, s_neq, s_lss, s_leq, s_gtr, s_geq, s_seql, s_sneq, s_eqB, s_neB, s_not, s_neg, s_convI, s_convS, s_ext, s_fld1, s_fldA, s_lenS, s_lenL, s_faddr, s_alloc, g_load1, g_loadA, g_store, ldC_cells, r_load1, r_loadA, s_call, push_size, set_size, push_new, set_same, e0, e1, e7, e8]
  refine ifW_intro (fun hc => ?_) (fun hc => ?_)
  · simp only [decide_eq_true_eq] at hc
    have hi2 : i < ks.length := by omega
    obtain ⟨n, o, c, opn, rw, rfl, _, hat, _, hcs⟩ := hel i hi2
    have hcell := (hcs i (encT ks[i]) (by simp [hi2])).val_cell
    simp only [Nat.mul_one] at hcell
    have hdrop : ks.drop i = ks[i] :: ks.drop (i + 1) := List.drop_eq_getElem_cons hi2
    rw [hdrop] at hix
    simp only [ixFrom] at hix
    simp -dsimp -implicitDefEqProofs only [wpC_skip, wpC_reg, wpC_draw, wpC_seq, wpC_cond, wpC_loopT, wpC_block, wpC_exit, wpC_ret, seqK_normal, seqK_exit, seqK_ret, blockK_normal, blockK_exit, blockK_ret, opsW_nil, opsW_cons, opsW_guard, drawW_nil, drawW_cons, drawW_re, drawW_guard, reW_nil, reW_cons, reW_guard,
    ev_tmp, ev_const, ev_func, upd_none, upd_get, oW_some, oT_some, entry_0, entry_1, entry_2, entry_3, entry_4, hW_some, pW_some, condW_bool, guardW_t, guardW_f, ifW_true, ifW_false, List.map_cons, List.map_nil, ↓reduceIte, Nat.reduceEqDiff, 
    s_mov, s_pick, s_add, s_sub, s_mul, s_eql, s_neq, s_lss, s_leq, s_gtr, s_geq, s_seql, s_sneq, s_eqB, s_neB, s_not, s_neg, s_convI, s_convS, s_ext, s_fld1, s_fldA, s_lenS, s_lenL, s_faddr, s_alloc, g_load1, g_loadA, g_store, ldC_cells, r_load1, r_loadA, s_call, push_size, set_size, push_new, set_same, e0, e1, e7, e8, s_iaddr (Int.natCast_nonneg i) hc, hat, Nat.mul_one, Int.toNat_natCast, hcell]
    refine ifW_intro (fun hc2 => ?_) (fun hc2 => ?_)
    · simp only [decide_eq_true_eq] at hc2
      simp -dsimp -implicitDefEqProofs only [wpC_skip, wpC_reg, wpC_draw, wpC_seq, wpC_cond, wpC_loopT, wpC_block, wpC_exit, wpC_ret, seqK_normal, seqK_exit, seqK_ret, blockK_normal, blockK_exit, blockK_ret, opsW_nil, opsW_cons, opsW_guard, drawW_nil, drawW_cons, drawW_re, drawW_guard, reW_nil, reW_cons, reW_guard,
    ev_tmp, ev_const, ev_func, upd_none, upd_get, oW_some, oT_some, entry_0, entry_1, entry_2, entry_3, entry_4, hW_some, pW_some, condW_bool, guardW_t, guardW_f, ifW_true, ifW_false, List.map_cons, List.map_nil, ↓reduceIte, Nat.reduceEqDiff, 
    s_mov, s_pick, s_add, s_sub, s_mul, s_eql, s_neq, s_lss, s_leq, s_gtr, s_geq, s_seql, s_sneq, s_eqB, s_neB, s_not, s_neg, s_convI, s_convS, s_ext, s_fld1, s_fldA, s_lenS, s_lenL, s_faddr, s_alloc, g_load1, g_loadA, g_store, ldC_cells, r_load1, r_loadA, s_call, push_size, set_size, push_new, set_same, retK, resC, resV]
      rw [if_pos hc2.symm] at hix
      exact ⟨trivial, by rw [hix]⟩
    · simp only [decide_eq_false_iff_not] at hc2
      rw [if_neg (fun e => hc2 e.symm)] at hix
      simp -dsimp -implicitDefEqProofs only [wpC_skip, wpC_reg, wpC_draw, wpC_seq, wpC_cond, wpC_loopT, wpC_block, wpC_exit, wpC_ret, seqK_normal, seqK_exit, seqK_ret, blockK_normal, blockK_exit, blockK_ret, opsW_nil, opsW_cons, opsW_guard, drawW_nil, drawW_cons, drawW_re, drawW_guard, reW_nil, reW_cons, reW_guard,
    ev_tmp, ev_const, ev_func, upd_none, upd_get, oW_some, oT_some, entry_0, entry_1, entry_2, entry_3, entry_4, hW_some, pW_some, condW_bool, guardW_t, guardW_f, ifW_true, ifW_false, List.map_cons, List.map_nil, ↓reduceIte, Nat.reduceEqDiff, 
    s_mov, s_pick, s_add, s_sub, s_mul, s_eql, s_neq, s_lss, s_leq, s_gtr, s_geq, s_seql, s_sneq, s_eqB, s_neB, s_not, s_neg, s_convI, s_convS, s_ext, s_fld1, s_fldA, s_lenS, s_lenL, s_faddr, s_alloc, g_load1, g_loadA, g_store, ldC_cells, r_load1, r_loadA, s_call, push_size, set_size, push_new, set_same, e0, e1, e7, e8]
      rw [wrap64 (by omega) (by omega)]
      refine ⟨⟨i + 1, trivial, hi2, trivial, trivial, trivial, rfl, hix⟩, ?_⟩
      simp only [intOf]; omega
  · simp only [decide_eq_false_iff_not] at hc
    have : i = ks.length := by omega
    subst this
    simp -dsimp -implicitDefEqProofs only [wpC_skip, wpC_reg, wpC_draw, wpC_seq, wpC_cond, wpC_loopT, wpC_block, wpC_exit, wpC_ret, seqK_normal, seqK_exit, seqK_ret, blockK_normal, blockK_exit, blockK_ret, opsW_nil, opsW_cons, opsW_guard, drawW_nil, drawW_cons, drawW_re, drawW_guard, reW_nil, reW_cons, reW_guard,
    ev_tmp, ev_const, ev_func, upd_none, upd_get, oW_some, oT_some, entry_0, entry_1, entry_2, entry_3, entry_4, hW_some, pW_some, condW_bool, guardW_t, guardW_f, ifW_true, ifW_false, List.map_cons, List.map_nil, ↓reduceIte, Nat.reduceEqDiff, 
    s_mov, s_pick, s_add, s_sub, s_mul, s_eql, s_neq, s_lss, s_leq, s_gtr, s_geq, s_seql, s_sneq, s_eqB, s_neB, s_not, s_neg, s_convI, s_convS, s_ext, s_fld1, s_fldA, s_lenS, s_lenL, s_faddr, s_alloc, g_load1, g_loadA, g_store, ldC_cells, r_load1, r_loadA, s_call, push_size, set_size, push_new, set_same, retK, resC, resV, e0, e1, e7, e8]
    simp only [List.drop_length, ixFrom] at hix
    exact ⟨trivial, by rw [hix]⟩

def atO : OT → ByteArray → Int
  | .mk a _ _ ks kd, key => if a ≠ 8 then -1 else if ks.length ≠ kd.length then -1 else ixFrom ks key 0

theorem c31 {h : CH} {S : Nat → Prop} {cs : List Value} {o : OT} {key : ByteArray} (hs : Rd h S (encO o) cs) (hS : ∀ n, S n → n < h.size) (hz : smO o) :
    callW Try.prog 31 [.agg cs.toArray, .string key] h fun r h' => Ext h h' ∧ r = .int .i64 (atO o key) := by
  refine callW_of (wf _) Try.func31 m31_ok (by simp [m31]) ?_
  obtain ⟨a, b, t, ks, kd⟩ := o
  obtain ⟨vk, vl, rfl, hk, hd⟩ := hs.obj
  simp only [smO] at hz
  obtain ⟨z2, z4, z5⟩ := hz
  obtain ⟨ak, capk, rfl, hel⟩ := hk.slice
  obtain ⟨al, capl, rfl, hel2⟩ := hd.slice
  simp only [List.length_map, encL_len] at hel hel2 hs ⊢
  simp -dsimp -implicitDefEqProofs only [wpC_skip, wpC_reg, wpC_draw, wpC_seq, wpC_cond, wpC_loopT, wpC_block, wpC_exit, wpC_ret, seqK_normal, seqK_exit, seqK_ret, blockK_normal, blockK_exit, blockK_ret, opsW_nil, opsW_cons, opsW_guard, drawW_nil, drawW_cons, drawW_re, drawW_guard, reW_nil, reW_cons, reW_guard,
    ev_tmp, ev_const, ev_func, upd_none, upd_get, oW_some, oT_some, entry_0, entry_1, entry_2, entry_3, entry_4, hW_some, pW_some, condW_bool, guardW_t, guardW_f, ifW_true, ifW_false, List.map_cons, List.map_nil, ↓reduceIte, Nat.reduceEqDiff, 
    s_mov, s_pick, s_add, s_sub, s_mul, s_eql, s_neq, s_lss, s_leq, s_gtr, s_geq, s_seql, s_sneq, s_eqB, s_neB, s_not, s_neg, s_convI, s_convS, s_ext, s_fld1, s_fldA, s_lenS, s_lenL, s_faddr, s_alloc, g_load1, g_loadA, g_store, ldC_cells, r_load1, r_loadA, s_call, push_size, set_size, push_new, set_same, m31]
  rw [s_box hs.ones]
  have ext1 : Ext h (h.push (.cells [.int .i64 a, .int .i64 b, .string t, .slice ak ks.length capk, .slice al kd.length capl] 5 false true)) := .push h _
  have at1 := push_new (h := h) (o := .cells [.int .i64 a, .int .i64 b, .string t, .slice ak ks.length capk, .slice al kd.length capl] 5 false true)
  revert ext1 at1
  generalize h.push (.cells [.int .i64 a, .int .i64 b, .string t, .slice ak ks.length capk, .slice al kd.length capl] 5 false true) = h1
  intro ext1 at1
  simp -dsimp -implicitDefEqProofs only [wpC_skip, wpC_reg, wpC_draw, wpC_seq, wpC_cond, wpC_loopT, wpC_block, wpC_exit, wpC_ret, seqK_normal, seqK_exit, seqK_ret, blockK_normal, blockK_exit, blockK_ret, opsW_nil, opsW_cons, opsW_guard, drawW_nil, drawW_cons, drawW_re, drawW_guard, reW_nil, reW_cons, reW_guard,
    ev_tmp, ev_const, ev_func, upd_none, upd_get, oW_some, oT_some, entry_0, entry_1, entry_2, entry_3, entry_4, hW_some, pW_some, condW_bool, guardW_t, guardW_f, ifW_true, ifW_false, List.map_cons, List.map_nil, ↓reduceIte, Nat.reduceEqDiff, 
    s_mov, s_pick, s_add, s_sub, s_mul, s_eql, s_neq, s_lss, s_leq, s_gtr, s_geq, s_seql, s_sneq, s_eqB, s_neB, s_not, s_neg, s_convI, s_convS, s_ext, s_fld1, s_fldA, s_lenS, s_lenL, s_faddr, s_alloc, g_load1, g_loadA, g_store, ldC_cells, r_load1, r_loadA, s_call, push_size, set_size, push_new, set_same, at1, Nat.zero_add, List.getElem?_cons_succ, List.getElem?_cons_zero]
  simp only [atO]
  refine ifW_intro (fun hc => ?_) (fun hc => ?_)
  · simp -dsimp -implicitDefEqProofs only [wpC_skip, wpC_reg, wpC_draw, wpC_seq, wpC_cond, wpC_loopT, wpC_block, wpC_exit, wpC_ret, seqK_normal, seqK_exit, seqK_ret, blockK_normal, blockK_exit, blockK_ret, opsW_nil, opsW_cons, opsW_guard, drawW_nil, drawW_cons, drawW_re, drawW_guard, reW_nil, reW_cons, reW_guard,
    ev_tmp, ev_const, ev_func, upd_none, upd_get, oW_some, oT_some, entry_0, entry_1, entry_2, entry_3, entry_4, hW_some, pW_some, condW_bool, guardW_t, guardW_f, ifW_true, ifW_false, List.map_cons, List.map_nil, ↓reduceIte, Nat.reduceEqDiff, 
    s_mov, s_pick, s_add, s_sub, s_mul, s_eql, s_neq, s_lss, s_leq, s_gtr, s_geq, s_seql, s_sneq, s_eqB, s_neB, s_not, s_neg, s_convI, s_convS, s_ext, s_fld1, s_fldA, s_lenS, s_lenL, s_faddr, s_alloc, g_load1, g_loadA, g_store, ldC_cells, r_load1, r_loadA, s_call, push_size, set_size, push_new, set_same, hc, retK, resC, resV]
    simp only [bne_iff_ne] at hc
    exact ⟨ext1, by rw [if_pos hc]⟩
  simp -dsimp -implicitDefEqProofs only [wpC_skip, wpC_reg, wpC_draw, wpC_seq, wpC_cond, wpC_loopT, wpC_block, wpC_exit, wpC_ret, seqK_normal, seqK_exit, seqK_ret, blockK_normal, blockK_exit, blockK_ret, opsW_nil, opsW_cons, opsW_guard, drawW_nil, drawW_cons, drawW_re, drawW_guard, reW_nil, reW_cons, reW_guard,
    ev_tmp, ev_const, ev_func, upd_none, upd_get, oW_some, oT_some, entry_0, entry_1, entry_2, entry_3, entry_4, hW_some, pW_some, condW_bool, guardW_t, guardW_f, ifW_true, ifW_false, List.map_cons, List.map_nil, ↓reduceIte, Nat.reduceEqDiff, 
    s_mov, s_pick, s_add, s_sub, s_mul, s_eql, s_neq, s_lss, s_leq, s_gtr, s_geq, s_seql, s_sneq, s_eqB, s_neB, s_not, s_neg, s_convI, s_convS, s_ext, s_fld1, s_fldA, s_lenS, s_lenL, s_faddr, s_alloc, g_load1, g_loadA, g_store, ldC_cells, r_load1, r_loadA, s_call, push_size, set_size, push_new, set_same, hc, at1, Nat.zero_add, List.getElem?_cons_succ, List.getElem?_cons_zero, Bool.false_eq_true]
  simp only [bne_eq_false_iff_eq] at hc
  rw [if_neg (by simp [hc])]
  refine ifW_intro (fun hc2 => ?_) (fun hc2 => ?_)
  · simp only [bne_iff_ne, ne_eq] at hc2
    simp -dsimp -implicitDefEqProofs only [wpC_skip, wpC_reg, wpC_draw, wpC_seq, wpC_cond, wpC_loopT, wpC_block, wpC_exit, wpC_ret, seqK_normal, seqK_exit, seqK_ret, blockK_normal, blockK_exit, blockK_ret, opsW_nil, opsW_cons, opsW_guard, drawW_nil, drawW_cons, drawW_re, drawW_guard, reW_nil, reW_cons, reW_guard,
    ev_tmp, ev_const, ev_func, upd_none, upd_get, oW_some, oT_some, entry_0, entry_1, entry_2, entry_3, entry_4, hW_some, pW_some, condW_bool, guardW_t, guardW_f, ifW_true, ifW_false, List.map_cons, List.map_nil, ↓reduceIte, Nat.reduceEqDiff, 
    s_mov, s_pick, s_add, s_sub, s_mul, s_eql, s_neq, s_lss, s_leq, s_gtr, s_geq, s_seql, s_sneq, s_eqB, s_neB, s_not, s_neg, s_convI, s_convS, s_ext, s_fld1, s_fldA, s_lenS, s_lenL, s_faddr, s_alloc, g_load1, g_loadA, g_store, ldC_cells, r_load1, r_loadA, s_call, push_size, set_size, push_new, set_same, retK, resC, resV]
    exact ⟨ext1, by rw [if_pos (by omega)]⟩
  simp only [bne_eq_false_iff_eq] at hc2
  rw [if_neg (by omega)]
  simp -dsimp -implicitDefEqProofs only [wpC_skip, wpC_reg, wpC_draw, wpC_seq, wpC_cond, wpC_loopT, wpC_block, wpC_exit, wpC_ret, seqK_normal, seqK_exit, seqK_ret, blockK_normal, blockK_exit, blockK_ret, opsW_nil, opsW_cons, opsW_guard, drawW_nil, drawW_cons, drawW_re, drawW_guard, reW_nil, reW_cons, reW_guard,
    ev_tmp, ev_const, ev_func, upd_none, upd_get, oW_some, oT_some, entry_0, entry_1, entry_2, entry_3, entry_4, hW_some, pW_some, condW_bool, guardW_t, guardW_f, ifW_true, ifW_false, List.map_cons, List.map_nil, ↓reduceIte, Nat.reduceEqDiff, 
    s_mov, s_pick, s_add, s_sub, s_mul, s_eql, s_neq, s_lss, s_leq, s_gtr, s_geq, s_seql, s_sneq, s_eqB, s_neB, s_not, s_neg, s_convI, s_convS, s_ext, s_fld1, s_fldA, s_lenS, s_lenL, s_faddr, s_alloc, g_load1, g_loadA, g_store, ldC_cells, r_load1, r_loadA, s_call, push_size, set_size, push_new, set_same]
  refine loopT_of (wpC_loop (fun ρ h2 => ∃ (i : Nat), h2 = h1 ∧ i ≤ ks.length ∧ ρ 1 = .string key ∧ ρ 2 = .pointer (some ⟨h.size, 0, none⟩) ∧ ρ 5 = .int .i64 i ∧ ixFrom ks key 0 = ixFrom (ks.drop i) key i)
      (fun ρ h1 => ks.length - intOf (ρ 5)) ⟨0, rfl, Nat.zero_le _, ?_, ?_, ?_, ?_⟩ ?_)
  · simp -dsimp -implicitDefEqProofs only [wpC_skip, wpC_reg, wpC_draw, wpC_seq, wpC_cond, wpC_loopT, wpC_block, wpC_exit, wpC_ret, seqK_normal, seqK_exit, seqK_ret, blockK_normal, blockK_exit, blockK_ret, opsW_nil, opsW_cons, opsW_guard, drawW_nil, drawW_cons, drawW_re, drawW_guard, reW_nil, reW_cons, reW_guard,
    ev_tmp, ev_const, ev_func, upd_none, upd_get, oW_some, oT_some, entry_0, entry_1, entry_2, entry_3, entry_4, hW_some, pW_some, condW_bool, guardW_t, guardW_f, ifW_true, ifW_false, List.map_cons, List.map_nil, ↓reduceIte, Nat.reduceEqDiff, 
    s_mov, s_pick, s_add, s_sub, s_mul, s_eql, s_neq, s_lss, s_leq, s_gtr, s_geq, s_seql, s_sneq, s_eqB, s_neB, s_not, s_neg, s_convI, s_convS, s_ext, s_fld1, s_fldA, s_lenS, s_lenL, s_faddr, s_alloc, g_load1, g_loadA, g_store, ldC_cells, r_load1, r_loadA, s_call, push_size, set_size, push_new, set_same]
  · simp -dsimp -implicitDefEqProofs only [wpC_skip, wpC_reg, wpC_draw, wpC_seq, wpC_cond, wpC_loopT, wpC_block, wpC_exit, wpC_ret, seqK_normal, seqK_exit, seqK_ret, blockK_normal, blockK_exit, blockK_ret, opsW_nil, opsW_cons, opsW_guard, drawW_nil, drawW_cons, drawW_re, drawW_guard, reW_nil, reW_cons, reW_guard,
    ev_tmp, ev_const, ev_func, upd_none, upd_get, oW_some, oT_some, entry_0, entry_1, entry_2, entry_3, entry_4, hW_some, pW_some, condW_bool, guardW_t, guardW_f, ifW_true, ifW_false, List.map_cons, List.map_nil, ↓reduceIte, Nat.reduceEqDiff, 
    s_mov, s_pick, s_add, s_sub, s_mul, s_eql, s_neq, s_lss, s_leq, s_gtr, s_geq, s_seql, s_sneq, s_eqB, s_neB, s_not, s_neg, s_convI, s_convS, s_ext, s_fld1, s_fldA, s_lenS, s_lenL, s_faddr, s_alloc, g_load1, g_loadA, g_store, ldC_cells, r_load1, r_loadA, s_call, push_size, set_size, push_new, set_same]
  · simp -dsimp -implicitDefEqProofs only [wpC_skip, wpC_reg, wpC_draw, wpC_seq, wpC_cond, wpC_loopT, wpC_block, wpC_exit, wpC_ret, seqK_normal, seqK_exit, seqK_ret, blockK_normal, blockK_exit, blockK_ret, opsW_nil, opsW_cons, opsW_guard, drawW_nil, drawW_cons, drawW_re, drawW_guard, reW_nil, reW_cons, reW_guard,
    ev_tmp, ev_const, ev_func, upd_none, upd_get, oW_some, oT_some, entry_0, entry_1, entry_2, entry_3, entry_4, hW_some, pW_some, condW_bool, guardW_t, guardW_f, ifW_true, ifW_false, List.map_cons, List.map_nil, ↓reduceIte, Nat.reduceEqDiff, 
    s_mov, s_pick, s_add, s_sub, s_mul, s_eql, s_neq, s_lss, s_leq, s_gtr, s_geq, s_seql, s_sneq, s_eqB, s_neB, s_not, s_neg, s_convI, s_convS, s_ext, s_fld1, s_fldA, s_lenS, s_lenL, s_faddr, s_alloc, g_load1, g_loadA, g_store, ldC_cells, r_load1, r_loadA, s_call, push_size, set_size, push_new, set_same]; rfl
  · simp
  rintro ρ h2 ⟨i, rfl, hi, e1, e2, e5, hix⟩
  simp -dsimp -implicitDefEqProofs only [wpC_skip, wpC_reg, wpC_draw, wpC_seq, wpC_cond, wpC_loopT, wpC_block, wpC_exit, wpC_ret, seqK_normal, seqK_exit, seqK_ret, blockK_normal, blockK_exit, blockK_ret, opsW_nil, opsW_cons, opsW_guard, drawW_nil, drawW_cons, drawW_re, drawW_guard, reW_nil, reW_cons, reW_guard,
    ev_tmp, ev_const, ev_func, upd_none, upd_get, oW_some, oT_some, entry_0, entry_1, entry_2, entry_3, entry_4, hW_some, pW_some, condW_bool, guardW_t, guardW_f, ifW_true, ifW_false, List.map_cons, List.map_nil, ↓reduceIte, Nat.reduceEqDiff, 
    s_mov, s_pick, s_add, s_sub, s_mul, s_eql, s_neq, s_lss, s_leq, s_gtr, s_geq, s_seql, s_sneq, s_eqB, s_neB, s_not, s_neg, s_convI, s_convS, s_ext, s_fld1, s_fldA, s_lenS, s_lenL, s_faddr, s_alloc, g_load1, g_loadA, g_store, ldC_cells, r_load1, r_loadA, s_call, push_size, set_size, push_new, set_same, e1, e2, e5, at1, Nat.zero_add, List.getElem?_cons_succ, List.getElem?_cons_zero]
  refine ifW_intro (fun hc => ?_) (fun hc => ?_)
  · simp only [decide_eq_true_eq] at hc
    have hi2 : i < ks.length := by omega
    obtain ⟨n, o, c, opn, rw, rfl, hSn, hat, _, hcs⟩ := hel i hi2
    have hcell := (hcs i (encT ks[i]) (by simp [hi2])).val_cell
    simp only [Nat.mul_one] at hcell
    have hat2 := (ext1.old n (hS n hSn)).trans hat
    have hdrop : ks.drop i = ks[i] :: ks.drop (i + 1) := List.drop_eq_getElem_cons hi2
    rw [hdrop] at hix
    simp only [ixFrom] at hix
    simp -dsimp -implicitDefEqProofs only [wpC_skip, wpC_reg, wpC_draw, wpC_seq, wpC_cond, wpC_loopT, wpC_block, wpC_exit, wpC_ret, seqK_normal, seqK_exit, seqK_ret, blockK_normal, blockK_exit, blockK_ret, opsW_nil, opsW_cons, opsW_guard, drawW_nil, drawW_cons, drawW_re, drawW_guard, reW_nil, reW_cons, reW_guard,
    ev_tmp, ev_const, ev_func, upd_none, upd_get, oW_some, oT_some, entry_0, entry_1, entry_2, entry_3, entry_4, hW_some, pW_some, condW_bool, guardW_t, guardW_f, ifW_true, ifW_false, List.map_cons, List.map_nil, ↓reduceIte, Nat.reduceEqDiff, 
    s_mov, s_pick, s_add, s_sub, s_mul, s_eql, s_neq, s_lss, s_leq, s_gtr, s_geq, s_seql, s_sneq, s_eqB, s_neB, s_not, s_neg, s_convI, s_convS, s_ext, s_fld1, s_fldA, s_lenS, s_lenL, s_faddr, s_alloc, g_load1, g_loadA, g_store, ldC_cells, r_load1, r_loadA, s_call, push_size, set_size, push_new, set_same, e1, e2, e5, at1, hat2, Nat.zero_add, List.getElem?_cons_succ, List.getElem?_cons_zero, s_iaddr (Int.natCast_nonneg i) hc, Nat.mul_one, Int.toNat_natCast, hcell]
    refine ifW_intro (fun hc2 => ?_) (fun hc2 => ?_)
    · simp only [decide_eq_true_eq] at hc2
      simp -dsimp -implicitDefEqProofs only [wpC_skip, wpC_reg, wpC_draw, wpC_seq, wpC_cond, wpC_loopT, wpC_block, wpC_exit, wpC_ret, seqK_normal, seqK_exit, seqK_ret, blockK_normal, blockK_exit, blockK_ret, opsW_nil, opsW_cons, opsW_guard, drawW_nil, drawW_cons, drawW_re, drawW_guard, reW_nil, reW_cons, reW_guard,
    ev_tmp, ev_const, ev_func, upd_none, upd_get, oW_some, oT_some, entry_0, entry_1, entry_2, entry_3, entry_4, hW_some, pW_some, condW_bool, guardW_t, guardW_f, ifW_true, ifW_false, List.map_cons, List.map_nil, ↓reduceIte, Nat.reduceEqDiff, 
    s_mov, s_pick, s_add, s_sub, s_mul, s_eql, s_neq, s_lss, s_leq, s_gtr, s_geq, s_seql, s_sneq, s_eqB, s_neB, s_not, s_neg, s_convI, s_convS, s_ext, s_fld1, s_fldA, s_lenS, s_lenL, s_faddr, s_alloc, g_load1, g_loadA, g_store, ldC_cells, r_load1, r_loadA, s_call, push_size, set_size, push_new, set_same, retK, resC, resV, e1, e2, e5]
      rw [if_pos hc2] at hix
      exact ⟨ext1, by rw [hix]⟩
    · simp only [decide_eq_false_iff_not] at hc2
      rw [if_neg hc2] at hix
      simp -dsimp -implicitDefEqProofs only [wpC_skip, wpC_reg, wpC_draw, wpC_seq, wpC_cond, wpC_loopT, wpC_block, wpC_exit, wpC_ret, seqK_normal, seqK_exit, seqK_ret, blockK_normal, blockK_exit, blockK_ret, opsW_nil, opsW_cons, opsW_guard, drawW_nil, drawW_cons, drawW_re, drawW_guard, reW_nil, reW_cons, reW_guard,
    ev_tmp, ev_const, ev_func, upd_none, upd_get, oW_some, oT_some, entry_0, entry_1, entry_2, entry_3, entry_4, hW_some, pW_some, condW_bool, guardW_t, guardW_f, ifW_true, ifW_false, List.map_cons, List.map_nil, ↓reduceIte, Nat.reduceEqDiff, 
    s_mov, s_pick, s_add, s_sub, s_mul, s_eql, s_neq, s_lss, s_leq, s_gtr, s_geq, s_seql, s_sneq, s_eqB, s_neB, s_not, s_neg, s_convI, s_convS, s_ext, s_fld1, s_fldA, s_lenS, s_lenL, s_faddr, s_alloc, g_load1, g_loadA, g_store, ldC_cells, r_load1, r_loadA, s_call, push_size, set_size, push_new, set_same, e1, e2, e5]
      rw [wrap64 (by omega) (by omega)]
      refine ⟨⟨i + 1, trivial, hi2, trivial, trivial, rfl, hix⟩, ?_⟩
      simp only [intOf]; omega
  · simp only [decide_eq_false_iff_not] at hc
    have : i = ks.length := by omega
    subst this
    simp -dsimp -implicitDefEqProofs only [wpC_skip, wpC_reg, wpC_draw, wpC_seq, wpC_cond, wpC_loopT, wpC_block, wpC_exit, wpC_ret, seqK_normal, seqK_exit, seqK_ret, blockK_normal, blockK_exit, blockK_ret, opsW_nil, opsW_cons, opsW_guard, drawW_nil, drawW_cons, drawW_re, drawW_guard, reW_nil, reW_cons, reW_guard,
    ev_tmp, ev_const, ev_func, upd_none, upd_get, oW_some, oT_some, entry_0, entry_1, entry_2, entry_3, entry_4, hW_some, pW_some, condW_bool, guardW_t, guardW_f, ifW_true, ifW_false, List.map_cons, List.map_nil, ↓reduceIte, Nat.reduceEqDiff, 
    s_mov, s_pick, s_add, s_sub, s_mul, s_eql, s_neq, s_lss, s_leq, s_gtr, s_geq, s_seql, s_sneq, s_eqB, s_neB, s_not, s_neg, s_convI, s_convS, s_ext, s_fld1, s_fldA, s_lenS, s_lenL, s_faddr, s_alloc, g_load1, g_loadA, g_store, ldC_cells, r_load1, r_loadA, s_call, push_size, set_size, push_new, set_same, retK, resC, resV, e1, e2, e5]
    simp only [List.drop_length, ixFrom] at hix
    exact ⟨ext1, by rw [hix]⟩

end Go.Proofs.Ytdfmdclfnhgjiaa.Can
