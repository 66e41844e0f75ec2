/- The laws on the attempts of a PIN: they return true. No condition. -/
import Derived.Test.YtlbafgkhnhkanaaDoorPinB
namespace Go.Proofs.YtlbafgkhnhkanaaDoor
open Go Go.Abs
-- TYPES 3 4 5 9 22 24 25 26 27 28
set_option linter.unusedSimpArgs false

def Sp3 : Specs := ⟨G0, fun f => if f = 14 then some (0, trueF) else if f = 12 then some (0, newF) else if f = 8 then some (0, chargeF) else if f = 10 then some (0, settleF)
  else if f = 13 then some (0, newF) else if f = 9 then some (0, chargeF) else if f = 11 then some (0, settleF) else none⟩
theorem Sp3_ok : SpecsOk Tryd.prog Sp3 := fun f k F h => by
  simp only [Sp3] at h
  split at h
  · rename_i e; subst e; cases h; exact awake_ok
  split at h
  · rename_i e; subst e; cases h; exact new_ok
  split at h
  · rename_i e; subst e; cases h; exact charge_ok
  split at h
  · rename_i e; subst e; cases h; exact settle_ok
  split at h
  · rename_i e; subst e; cases h; exact refNew_ok
  split at h
  · rename_i e; subst e; cases h; exact refCharge_ok
  split at h
  · rename_i e; subst e; cases h; exact refSettle_ok
  · cases h

def rowF : List D → Option (D × List Box)
  | [.int .u64 _, .int .u8 _] => some (.bool true, [])
  | _ => none
/-- the state at the head of round i. -/
def rowAt (c n : Int) (i : Nat) : S := St [(1, .int .u8 n), (5, .bp 0 0), (6, .int .i64 i)] [.var [.bool true, .int .u64 c, .int .i64 (8 - i), .int .i64 (if i = 0 then 0 else (i - 1) % 3 + 1)]]
theorem rowAt_lt (i : Nat) (h : i < 9) : i = 0 ∨ i = 1 ∨ i = 2 ∨ i = 3 ∨ i = 4 ∨ i = 5 ∨ i = 6 ∨ i = 7 ∨ i = 8 := by omega
set_option maxRecDepth 100000 in
set_option maxHeartbeats 8000000 in
theorem row_ok : Sound Tryd.prog G0 5 0 rowF := by
  refine sound0 (Sp := Sp3) (c := Tryd.f5.body.getD .skip) hmix Sp3_ok Tryd.func5 rfl (by kernel_rfl) (by kernel_rfl) ?_
  intro ds r bx h
  unfold rowF at h
  split at h
  · rename_i c n
    simp only [Option.some.injEq, Prod.mk.injEq] at h
    obtain ⟨rfl, rfl⟩ := h
    refine ⟨rfl, rfl, by simp [Tryd.f5], ?_⟩
    unfold Tryd.f5
    simp only [Option.getD_some, ↓a_seq, ↓a_skip, ↓a_ret, ↓a_exit, ↓a_label, ↓a_region, ↓a_cond, ↓a_block, ↓then_normal, ↓then_exit, ↓then_ret, ↓block_normal, ↓block_exit, ↓block_ret, ↓r_nil, ↓r_cons, ↓r_guard, ↓guard_o, ↓guard_b, Option.bind_some, ↓s_move, ↓s_assign, ↓s_pick, ↓s_nil, ↓s_bin, ↓s_un, ↓s_build, ↓s_fieldAddr, ↓s_field, ↓s_indexAddr, ↓s_index, ↓s_slice, ↓s_extract, ↓s_func, ↓s_len, ↓s_min, ↓s_max, ↓s_load, ↓s_alloc, ↓s_box, ↓s_store, ↓s_append, ↓s_buildSlice, ↓s_range, ↓s_next, ↓go_some, ↓goM_some, ↓put_some, ↓put_none, ↓ret_normal, ↓ret_ret, ↓head_normal, ↓head_exit, ↓head_ret, S0, ev_tmp, ev_const, ev_func, upd_at, get0, get1, cond_b, cond_t, cond_f, pick_t, pick_f, nilD, extD, allocD, storeD, loadR, loadD, fieldAddrD, fieldD, buildD, fillD, b_int, b_str, i_add, i_sub, i_mul, i_and, i_or, i_xor, i_andNot, i_eql, i_neq, i_lss, i_leq, i_gtr, i_geq, s_eql, s_neq, u_not, u_neg, minD, maxD, lenD, nextD, ofV, D.fit, D.one, D.cells, D.pure, pureL, Mem.add, Mem.set, setCells, resOf, resD, callD, snapL, snap, indexAddrD, indexD, idx, sliceD, bound, c_int, c_str, s_conv, rowsOf, Mem.rows, Mem.cut, Nat.reduceBEq, Bool.false_eq_true, if_true, if_false, ite_true, ite_false, List.length_cons, List.length_nil, Nat.reduceAdd, Nat.reduceLeDiff, Nat.reduceLT, Nat.reduceEqDiff, List.take_succ_cons, List.take_zero, List.drop_succ_cons, List.drop_zero, Option.map_some, Option.map_none, List.map_nil, List.map_cons, and_self, Nat.le_refl, and_true, true_and, List.append_nil, List.nil_append, Option.some.injEq, List.getElem?_cons_zero, List.getElem?_cons_succ, Nat.zero_add, Nat.add_zero, Bool.not_true, Bool.not_false, decide_eq_true_eq, Bool.not_eq_true, eq_self, reduceIte, Bool.true_eq_false, reduceCtorEq, Bool.true_and, Bool.false_and, Bool.and_true, Bool.and_false, Int.cast_ofNat_Int, Int.reduceLE, Int.reduceLT, Int.reduceEq, Int.reduceAdd, Int.reduceToNat, UInt8.reduceToNat, Int.reduceMod, Int.reducePow, Int.reduceTMod, Int.reduceTDiv, Nat.reduceSub, Nat.reduceMul, Int.reduceGE, Int.reduceDiv, Int.reduceNeg, Int.reduceBNe, Int.reduceBEq, Int.reduceGT, Int.reduceSub, Int.reduceMul, Int.reduceNe, Nat.reducePow, Option.bind_none, decide_true, decide_false, Bool.not_eq_eq_eq_not, ↓s_call0 (Sp := Sp3) (f := 12) (F := newF) rfl, newF, tf_sz3, tf_by3, tf_agg3, tf_int3, tf_el3, tf_und3, tf_z3, tf_zr3, tf_sz4, tf_by4, tf_agg4, tf_bool4, tf_el4, tf_und4, tf_z4, tf_zr4, tf_sz5, tf_by5, tf_agg5, tf_int5, tf_el5, tf_und5, tf_z5, tf_zr5, tf_sz9, tf_by9, tf_agg9, tf_str9, tf_el9, tf_und9, tf_z9, tf_zr9, tf_sz22, tf_by22, tf_agg22, tf_int22, tf_el22, tf_und22, tf_z22, tf_zr22, tf_sz24, tf_by24, tf_agg24, tf_el24, tf_und24, tf_z24, tf_pl24, tf_f24x0, tf_f24x1, tf_f24x2, tf_f24x3, tf_eq24, tf_zr24, tf_sz25, tf_by25, tf_agg25, tf_int25, tf_el25, tf_und25, tf_z25, tf_zr25, tf_sz26, tf_by26, tf_agg26, tf_int26, tf_el26, tf_und26, tf_z26, tf_zr26, tf_sz27, tf_by27, tf_agg27, tf_el27, tf_und27, tf_z27, tf_zr27, tf_sz28, tf_by28, tf_agg28, tf_int28, tf_el28, tf_und28, tf_z28, tf_zr28]
    refine a_loopH (α := Fin 9) (fun x => rowAt c n x.1) (fun x => 9 - x.1) ⟨0, by omega⟩ ?_ ?_
    · refine weak_st (Nat.le_refl _) ?_ ?_
      · simp [okT, D.bel, upd_at, t0]
      · simp [okB, Box.bel, belL, D.bel, upd_at]
    · rintro ⟨i, hi⟩
      rcases rowAt_lt i hi with rfl | rfl | rfl | rfl | rfl | rfl | rfl | rfl | rfl
      all_goals
        unfold rowAt
        simp only [Option.getD_some, ↓a_seq, ↓a_skip, ↓a_ret, ↓a_exit, ↓a_label, ↓a_region, ↓a_cond, ↓a_block, ↓then_normal, ↓then_exit, ↓then_ret, ↓block_normal, ↓block_exit, ↓block_ret, ↓r_nil, ↓r_cons, ↓r_guard, ↓guard_o, ↓guard_b, Option.bind_some, ↓s_move, ↓s_assign, ↓s_pick, ↓s_nil, ↓s_bin, ↓s_un, ↓s_build, ↓s_fieldAddr, ↓s_field, ↓s_indexAddr, ↓s_index, ↓s_slice, ↓s_extract, ↓s_func, ↓s_len, ↓s_min, ↓s_max, ↓s_load, ↓s_alloc, ↓s_box, ↓s_store, ↓s_append, ↓s_buildSlice, ↓s_range, ↓s_next, ↓go_some, ↓goM_some, ↓put_some, ↓put_none, ↓ret_normal, ↓ret_ret, ↓head_normal, ↓head_exit, ↓head_ret, S0, ev_tmp, ev_const, ev_func, upd_at, get0, get1, cond_b, cond_t, cond_f, pick_t, pick_f, nilD, extD, allocD, storeD, loadR, loadD, fieldAddrD, fieldD, buildD, fillD, b_int, b_str, i_add, i_sub, i_mul, i_and, i_or, i_xor, i_andNot, i_eql, i_neq, i_lss, i_leq, i_gtr, i_geq, s_eql, s_neq, u_not, u_neg, minD, maxD, lenD, nextD, ofV, D.fit, D.one, D.cells, D.pure, pureL, Mem.add, Mem.set, setCells, resOf, resD, callD, snapL, snap, indexAddrD, indexD, idx, sliceD, bound, c_int, c_str, s_conv, rowsOf, Mem.rows, Mem.cut, Nat.reduceBEq, Bool.false_eq_true, if_true, if_false, ite_true, ite_false, List.length_cons, List.length_nil, Nat.reduceAdd, Nat.reduceLeDiff, Nat.reduceLT, Nat.reduceEqDiff, List.take_succ_cons, List.take_zero, List.drop_succ_cons, List.drop_zero, Option.map_some, Option.map_none, List.map_nil, List.map_cons, and_self, Nat.le_refl, and_true, true_and, List.append_nil, List.nil_append, Option.some.injEq, List.getElem?_cons_zero, List.getElem?_cons_succ, Nat.zero_add, Nat.add_zero, Bool.not_true, Bool.not_false, decide_eq_true_eq, Bool.not_eq_true, eq_self, reduceIte, Bool.true_eq_false, reduceCtorEq, Bool.true_and, Bool.false_and, Bool.and_true, Bool.and_false, Int.cast_ofNat_Int, Int.reduceLE, Int.reduceLT, Int.reduceEq, Int.reduceAdd, Int.reduceToNat, UInt8.reduceToNat, Int.reduceMod, Int.reducePow, Int.reduceTMod, Int.reduceTDiv, Nat.reduceSub, Nat.reduceMul, Int.reduceGE, Int.reduceDiv, Int.reduceNeg, Int.reduceBNe, Int.reduceBEq, Int.reduceGT, Int.reduceSub, Int.reduceMul, Int.reduceNe, Nat.reducePow, Option.bind_none, decide_true, decide_false, Bool.not_eq_eq_eq_not, ↓s_call0 (Sp := Sp3) (f := 14) (F := trueF) rfl, ↓s_call0 (Sp := Sp3) (f := 8) (F := chargeF) rfl, ↓s_call0 (Sp := Sp3) (f := 10) (F := settleF) rfl, trueF, chargeF, settleF, chargeR, settleR, chargeCode, settleCode, nextWrong, IntKind.wrap, IntKind.bits, IntKind.signed, i_rem, St, tmpsOf, bxOf, tf_sz3, tf_by3, tf_agg3, tf_int3, tf_el3, tf_und3, tf_z3, tf_zr3, tf_sz4, tf_by4, tf_agg4, tf_bool4, tf_el4, tf_und4, tf_z4, tf_zr4, tf_sz5, tf_by5, tf_agg5, tf_int5, tf_el5, tf_und5, tf_z5, tf_zr5, tf_sz9, tf_by9, tf_agg9, tf_str9, tf_el9, tf_und9, tf_z9, tf_zr9, tf_sz22, tf_by22, tf_agg22, tf_int22, tf_el22, tf_und22, tf_z22, tf_zr22, tf_sz24, tf_by24, tf_agg24, tf_el24, tf_und24, tf_z24, tf_pl24, tf_f24x0, tf_f24x1, tf_f24x2, tf_f24x3, tf_eq24, tf_zr24, tf_sz25, tf_by25, tf_agg25, tf_int25, tf_el25, tf_und25, tf_z25, tf_zr25, tf_sz26, tf_by26, tf_agg26, tf_int26, tf_el26, tf_und26, tf_z26, tf_zr26, tf_sz27, tf_by27, tf_agg27, tf_el27, tf_und27, tf_z27, tf_zr27, tf_sz28, tf_by28, tf_agg28, tf_int28, tf_el28, tf_und28, tf_z28, tf_zr28]
      · refine ⟨⟨1, by omega⟩, ?_, by simp⟩
        show Weak Sp3 _ (rowAt c n 1)
        unfold rowAt
        refine weak_st ?_ ?_ ?_
        · simp
        · simp [okT, D.bel, upd_at]
        · simp [okB, Box.bel, belL, D.bel, upd_at]
      · refine ⟨⟨2, by omega⟩, ?_, by simp⟩
        show Weak Sp3 _ (rowAt c n 2)
        unfold rowAt
        refine weak_st ?_ ?_ ?_
        · simp
        · simp [okT, D.bel, upd_at]
        · simp [okB, Box.bel, belL, D.bel, upd_at]
      · refine ⟨⟨3, by omega⟩, ?_, by simp⟩
        show Weak Sp3 _ (rowAt c n 3)
        unfold rowAt
        refine weak_st ?_ ?_ ?_
        · simp
        · simp [okT, D.bel, upd_at]
        · simp [okB, Box.bel, belL, D.bel, upd_at]
      · refine ⟨⟨4, by omega⟩, ?_, by simp⟩
        show Weak Sp3 _ (rowAt c n 4)
        unfold rowAt
        refine weak_st ?_ ?_ ?_
        · simp
        · simp [okT, D.bel, upd_at]
        · simp [okB, Box.bel, belL, D.bel, upd_at]
      · refine ⟨⟨5, by omega⟩, ?_, by simp⟩
        show Weak Sp3 _ (rowAt c n 5)
        unfold rowAt
        refine weak_st ?_ ?_ ?_
        · simp
        · simp [okT, D.bel, upd_at]
        · simp [okB, Box.bel, belL, D.bel, upd_at]
      · refine ⟨⟨6, by omega⟩, ?_, by simp⟩
        show Weak Sp3 _ (rowAt c n 6)
        unfold rowAt
        refine weak_st ?_ ?_ ?_
        · simp
        · simp [okT, D.bel, upd_at]
        · simp [okB, Box.bel, belL, D.bel, upd_at]
      · refine ⟨⟨7, by omega⟩, ?_, by simp⟩
        show Weak Sp3 _ (rowAt c n 7)
        unfold rowAt
        refine weak_st ?_ ?_ ?_
        · simp
        · simp [okT, D.bel, upd_at]
        · simp [okB, Box.bel, belL, D.bel, upd_at]
      · refine ⟨⟨8, by omega⟩, ?_, by simp⟩
        show Weak Sp3 _ (rowAt c n 8)
        unfold rowAt
        refine weak_st ?_ ?_ ?_
        · simp
        · simp [okT, D.bel, upd_at]
        · simp [okB, Box.bel, belL, D.bel, upd_at]
  · cases h
end Go.Proofs.YtlbafgkhnhkanaaDoor
