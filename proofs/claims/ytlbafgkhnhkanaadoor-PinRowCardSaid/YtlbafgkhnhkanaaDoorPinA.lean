/- Contracts of the state of a PIN: New, Charge, Settle, in the program and in the reference. No condition. -/
import Derived.Test.YtlbafgkhnhkanaaDoorFacts
namespace Go.Proofs.YtlbafgkhnhkanaaDoor
open Go Go.Abs
-- TYPES 3 4 5 9 22 24 28
set_option linter.unusedSimpArgs false
def G0 : Nat → Option (List D) := fun _ => none
def Sp0 : Specs := ⟨G0, fun _ => none⟩
theorem Sp0_ok : SpecsOk Tryd.prog Sp0 := fun f k F h => by cases h

def chargeCode (s : Bool) (r w : Int) : Int := if s = false then 25 else if r < 1 then 27 else if 3 ≤ w then 28 else 0
def chargeR (s : Bool) (c r w : Int) : D :=
  .tup [.agg [.bool (if chargeCode s r w = 0 then s else false), .int .u64 (if chargeCode s r w = 0 then c else 0), .int .i64 (if chargeCode s r w = 0 then IntKind.i64.wrap (r - 1) else 0), .int .i64 (if chargeCode s r w = 0 then w else 0)], .int .i64 (chargeCode s r w)]
def chargeF : List D → Option (D × List Box)
  | [.agg [.bool s, .int .u64 c, .int .i64 r, .int .i64 w]] => some (chargeR s c r w, [])
  | _ => none
theorem charge_flat (s : Bool) (c r w : Int) : (chargeR s c r w).flat = true := rfl

def nextWrong (w : Int) : Int := if w < 3 then IntKind.i64.wrap (w + 1) else 3
def settleCode (r w : Int) (right : Bool) : Int := if right = true then 0 else if r < 1 then 27 else if 3 ≤ nextWrong w then 28 else 24
def settleR (s : Bool) (c r w : Int) (right : Bool) : D :=
  .tup [.agg [.bool s, .int .u64 c, .int .i64 (if right = true then 8 else r), .int .i64 (if right = true then 0 else nextWrong w)], .int .i64 (settleCode r w right)]
def settleF : List D → Option (D × List Box)
  | [.agg [.bool s, .int .u64 c, .int .i64 r, .int .i64 w], .bool right] => some (settleR s c r w right, [])
  | _ => none
theorem settle_flat (s : Bool) (c r w : Int) (q : Bool) : (settleR s c r w q).flat = true := rfl

def newF : List D → Option (D × List Box)
  | [.int .u64 c] => some (.agg [.bool true, .int .u64 c, .int .i64 8, .int .i64 0], [])
  | _ => none

theorem charge_ok : Sound Tryd.prog G0 8 0 chargeF := by
  refine sound0 (Sp := Sp0) (c := Tryd.f8.body.getD .skip) hmix Sp0_ok Tryd.func8 rfl (by kernel_rfl) (by kernel_rfl) ?_
  intro ds r bx h
  unfold chargeF at h
  split at h
  · rename_i s c r w
    simp only [Option.some.injEq, Prod.mk.injEq] at h
    obtain ⟨rfl, rfl⟩ := h
    refine ⟨rfl, charge_flat s c r w, by simp [Tryd.f8], ?_⟩
    unfold Tryd.f8
    simp only [Option.getD_some, ↓a_seq, ↓a_skip, ↓a_ret, ↓a_exit, ↓a_label, ↓a_region, ↓a_cond, ↓a_block, ↓then_normal, ↓then_exit, ↓then_ret, ↓block_normal, ↓block_exit, ↓block_ret, ↓r_nil, ↓r_cons, ↓r_guard, ↓guard_o, ↓guard_b, Option.bind_some, ↓s_move, ↓s_assign, ↓s_pick, ↓s_nil, ↓s_bin, ↓s_un, ↓s_build, ↓s_fieldAddr, ↓s_field, ↓s_indexAddr, ↓s_index, ↓s_slice, ↓s_extract, ↓s_func, ↓s_len, ↓s_min, ↓s_max, ↓s_load, ↓s_alloc, ↓s_box, ↓s_store, ↓s_append, ↓s_buildSlice, ↓s_range, ↓s_next, ↓go_some, ↓goM_some, ↓put_some, ↓put_none, ↓ret_normal, ↓ret_ret, ↓head_normal, ↓head_exit, ↓head_ret, S0, ev_tmp, ev_const, ev_func, upd_at, get0, get1, cond_b, cond_t, cond_f, pick_t, pick_f, nilD, extD, allocD, storeD, loadR, loadD, fieldAddrD, fieldD, buildD, fillD, b_int, b_str, i_add, i_sub, i_mul, i_and, i_or, i_xor, i_andNot, i_eql, i_neq, i_lss, i_leq, i_gtr, i_geq, s_eql, s_neq, u_not, u_neg, minD, maxD, lenD, nextD, ofV, D.fit, D.one, D.cells, D.pure, pureL, Mem.add, Mem.set, setCells, resOf, resD, callD, snapL, snap, indexAddrD, indexD, idx, sliceD, bound, c_int, c_str, s_conv, rowsOf, Mem.rows, Mem.cut, Nat.reduceBEq, Bool.false_eq_true, if_true, if_false, ite_true, ite_false, List.length_cons, List.length_nil, Nat.reduceAdd, Nat.reduceLeDiff, Nat.reduceLT, Nat.reduceEqDiff, List.take_succ_cons, List.take_zero, List.drop_succ_cons, List.drop_zero, Option.map_some, Option.map_none, List.map_nil, List.map_cons, and_self, Nat.le_refl, and_true, true_and, List.append_nil, List.nil_append, Option.some.injEq, List.getElem?_cons_zero, List.getElem?_cons_succ, Nat.zero_add, Nat.add_zero, Bool.not_true, Bool.not_false, decide_eq_true_eq, Bool.not_eq_true, eq_self, reduceIte, Bool.true_eq_false, reduceCtorEq, Bool.true_and, Bool.false_and, Bool.and_true, Bool.and_false, Int.cast_ofNat_Int, Int.reduceLE, Int.reduceLT, Int.reduceEq, Int.reduceAdd, Int.reduceToNat, UInt8.reduceToNat, Int.reduceMod, Int.reducePow, Int.reduceTMod, Int.reduceTDiv, Nat.reduceSub, Nat.reduceMul, Int.reduceGE, Int.reduceDiv, Int.reduceNeg, Int.reduceBNe, Int.reduceBEq, Int.reduceGT, Int.reduceSub, Int.reduceMul, Int.reduceNe, Nat.reducePow, Option.bind_none, decide_true, decide_false, Bool.not_eq_eq_eq_not, tf_sz3, tf_by3, tf_agg3, tf_int3, tf_el3, tf_und3, tf_z3, tf_zr3, tf_sz4, tf_by4, tf_agg4, tf_bool4, tf_el4, tf_und4, tf_z4, tf_zr4, tf_sz5, tf_by5, tf_agg5, tf_int5, tf_el5, tf_und5, tf_z5, tf_zr5, tf_sz9, tf_by9, tf_agg9, tf_str9, tf_el9, tf_und9, tf_z9, tf_zr9, tf_sz22, tf_by22, tf_agg22, tf_int22, tf_el22, tf_und22, tf_z22, tf_zr22, tf_sz24, tf_by24, tf_agg24, tf_el24, tf_und24, tf_z24, tf_pl24, tf_f24x0, tf_f24x1, tf_f24x2, tf_f24x3, tf_eq24, tf_zr24, tf_sz28, tf_by28, tf_agg28, tf_int28, tf_el28, tf_und28, tf_z28, tf_zr28]
    cases s
    · simp [chargeR, chargeCode]
    · by_cases h1 : r < 1
      · have h1' : ¬ 1 ≤ r := by omega
        simp [chargeR, chargeCode, h1, h1']
      · have h1' : 1 ≤ r := by omega
        by_cases h2 : 3 ≤ w <;> simp [chargeR, chargeCode, h1, h1', h2]
  · cases h

theorem refCharge_ok : Sound Tryd.prog G0 9 0 chargeF := by
  refine sound0 (Sp := Sp0) (c := Tryd.f9.body.getD .skip) hmix Sp0_ok Tryd.func9 rfl (by kernel_rfl) (by kernel_rfl) ?_
  intro ds r bx h
  unfold chargeF at h
  split at h
  · rename_i s c r w
    simp only [Option.some.injEq, Prod.mk.injEq] at h
    obtain ⟨rfl, rfl⟩ := h
    refine ⟨rfl, charge_flat s c r w, by simp [Tryd.f9], ?_⟩
    unfold Tryd.f9
    simp only [Option.getD_some, ↓a_seq, ↓a_skip, ↓a_ret, ↓a_exit, ↓a_label, ↓a_region, ↓a_cond, ↓a_block, ↓then_normal, ↓then_exit, ↓then_ret, ↓block_normal, ↓block_exit, ↓block_ret, ↓r_nil, ↓r_cons, ↓r_guard, ↓guard_o, ↓guard_b, Option.bind_some, ↓s_move, ↓s_assign, ↓s_pick, ↓s_nil, ↓s_bin, ↓s_un, ↓s_build, ↓s_fieldAddr, ↓s_field, ↓s_indexAddr, ↓s_index, ↓s_slice, ↓s_extract, ↓s_func, ↓s_len, ↓s_min, ↓s_max, ↓s_load, ↓s_alloc, ↓s_box, ↓s_store, ↓s_append, ↓s_buildSlice, ↓s_range, ↓s_next, ↓go_some, ↓goM_some, ↓put_some, ↓put_none, ↓ret_normal, ↓ret_ret, ↓head_normal, ↓head_exit, ↓head_ret, S0, ev_tmp, ev_const, ev_func, upd_at, get0, get1, cond_b, cond_t, cond_f, pick_t, pick_f, nilD, extD, allocD, storeD, loadR, loadD, fieldAddrD, fieldD, buildD, fillD, b_int, b_str, i_add, i_sub, i_mul, i_and, i_or, i_xor, i_andNot, i_eql, i_neq, i_lss, i_leq, i_gtr, i_geq, s_eql, s_neq, u_not, u_neg, minD, maxD, lenD, nextD, ofV, D.fit, D.one, D.cells, D.pure, pureL, Mem.add, Mem.set, setCells, resOf, resD, callD, snapL, snap, indexAddrD, indexD, idx, sliceD, bound, c_int, c_str, s_conv, rowsOf, Mem.rows, Mem.cut, Nat.reduceBEq, Bool.false_eq_true, if_true, if_false, ite_true, ite_false, List.length_cons, List.length_nil, Nat.reduceAdd, Nat.reduceLeDiff, Nat.reduceLT, Nat.reduceEqDiff, List.take_succ_cons, List.take_zero, List.drop_succ_cons, List.drop_zero, Option.map_some, Option.map_none, List.map_nil, List.map_cons, and_self, Nat.le_refl, and_true, true_and, List.append_nil, List.nil_append, Option.some.injEq, List.getElem?_cons_zero, List.getElem?_cons_succ, Nat.zero_add, Nat.add_zero, Bool.not_true, Bool.not_false, decide_eq_true_eq, Bool.not_eq_true, eq_self, reduceIte, Bool.true_eq_false, reduceCtorEq, Bool.true_and, Bool.false_and, Bool.and_true, Bool.and_false, Int.cast_ofNat_Int, Int.reduceLE, Int.reduceLT, Int.reduceEq, Int.reduceAdd, Int.reduceToNat, UInt8.reduceToNat, Int.reduceMod, Int.reducePow, Int.reduceTMod, Int.reduceTDiv, Nat.reduceSub, Nat.reduceMul, Int.reduceGE, Int.reduceDiv, Int.reduceNeg, Int.reduceBNe, Int.reduceBEq, Int.reduceGT, Int.reduceSub, Int.reduceMul, Int.reduceNe, Nat.reducePow, Option.bind_none, decide_true, decide_false, Bool.not_eq_eq_eq_not, tf_sz3, tf_by3, tf_agg3, tf_int3, tf_el3, tf_und3, tf_z3, tf_zr3, tf_sz4, tf_by4, tf_agg4, tf_bool4, tf_el4, tf_und4, tf_z4, tf_zr4, tf_sz5, tf_by5, tf_agg5, tf_int5, tf_el5, tf_und5, tf_z5, tf_zr5, tf_sz9, tf_by9, tf_agg9, tf_str9, tf_el9, tf_und9, tf_z9, tf_zr9, tf_sz22, tf_by22, tf_agg22, tf_int22, tf_el22, tf_und22, tf_z22, tf_zr22, tf_sz24, tf_by24, tf_agg24, tf_el24, tf_und24, tf_z24, tf_pl24, tf_f24x0, tf_f24x1, tf_f24x2, tf_f24x3, tf_eq24, tf_zr24, tf_sz28, tf_by28, tf_agg28, tf_int28, tf_el28, tf_und28, tf_z28, tf_zr28]
    cases s
    · simp [chargeR, chargeCode]
    · by_cases h1 : r < 1
      · have h1' : ¬ 1 ≤ r := by omega
        simp [chargeR, chargeCode, h1, h1']
      · have h1' : 1 ≤ r := by omega
        by_cases h2 : 3 ≤ w <;> simp [chargeR, chargeCode, h1, h1', h2]
  · cases h

theorem wrap_small {n : Int} (h1 : -9223372036854775808 ≤ n) (h2 : n ≤ 9223372036854775807) : IntKind.i64.wrap n = n := by
  have h := IntWalk.i64_in n ⟨by omega, by omega⟩
  exact h

theorem settle_ok : Sound Tryd.prog G0 10 0 settleF := by
  refine sound0 (Sp := Sp0) (c := Tryd.f10.body.getD .skip) hmix Sp0_ok Tryd.func10 rfl (by kernel_rfl) (by kernel_rfl) ?_
  intro ds r bx h
  unfold settleF at h
  split at h
  · rename_i s c r w q
    simp only [Option.some.injEq, Prod.mk.injEq] at h
    obtain ⟨rfl, rfl⟩ := h
    refine ⟨rfl, settle_flat s c r w q, by simp [Tryd.f10], ?_⟩
    unfold Tryd.f10
    simp only [Option.getD_some, ↓a_seq, ↓a_skip, ↓a_ret, ↓a_exit, ↓a_label, ↓a_region, ↓a_cond, ↓a_block, ↓then_normal, ↓then_exit, ↓then_ret, ↓block_normal, ↓block_exit, ↓block_ret, ↓r_nil, ↓r_cons, ↓r_guard, ↓guard_o, ↓guard_b, Option.bind_some, ↓s_move, ↓s_assign, ↓s_pick, ↓s_nil, ↓s_bin, ↓s_un, ↓s_build, ↓s_fieldAddr, ↓s_field, ↓s_indexAddr, ↓s_index, ↓s_slice, ↓s_extract, ↓s_func, ↓s_len, ↓s_min, ↓s_max, ↓s_load, ↓s_alloc, ↓s_box, ↓s_store, ↓s_append, ↓s_buildSlice, ↓s_range, ↓s_next, ↓go_some, ↓goM_some, ↓put_some, ↓put_none, ↓ret_normal, ↓ret_ret, ↓head_normal, ↓head_exit, ↓head_ret, S0, ev_tmp, ev_const, ev_func, upd_at, get0, get1, cond_b, cond_t, cond_f, pick_t, pick_f, nilD, extD, allocD, storeD, loadR, loadD, fieldAddrD, fieldD, buildD, fillD, b_int, b_str, i_add, i_sub, i_mul, i_and, i_or, i_xor, i_andNot, i_eql, i_neq, i_lss, i_leq, i_gtr, i_geq, s_eql, s_neq, u_not, u_neg, minD, maxD, lenD, nextD, ofV, D.fit, D.one, D.cells, D.pure, pureL, Mem.add, Mem.set, setCells, resOf, resD, callD, snapL, snap, indexAddrD, indexD, idx, sliceD, bound, c_int, c_str, s_conv, rowsOf, Mem.rows, Mem.cut, Nat.reduceBEq, Bool.false_eq_true, if_true, if_false, ite_true, ite_false, List.length_cons, List.length_nil, Nat.reduceAdd, Nat.reduceLeDiff, Nat.reduceLT, Nat.reduceEqDiff, List.take_succ_cons, List.take_zero, List.drop_succ_cons, List.drop_zero, Option.map_some, Option.map_none, List.map_nil, List.map_cons, and_self, Nat.le_refl, and_true, true_and, List.append_nil, List.nil_append, Option.some.injEq, List.getElem?_cons_zero, List.getElem?_cons_succ, Nat.zero_add, Nat.add_zero, Bool.not_true, Bool.not_false, decide_eq_true_eq, Bool.not_eq_true, eq_self, reduceIte, Bool.true_eq_false, reduceCtorEq, Bool.true_and, Bool.false_and, Bool.and_true, Bool.and_false, Int.cast_ofNat_Int, Int.reduceLE, Int.reduceLT, Int.reduceEq, Int.reduceAdd, Int.reduceToNat, UInt8.reduceToNat, Int.reduceMod, Int.reducePow, Int.reduceTMod, Int.reduceTDiv, Nat.reduceSub, Nat.reduceMul, Int.reduceGE, Int.reduceDiv, Int.reduceNeg, Int.reduceBNe, Int.reduceBEq, Int.reduceGT, Int.reduceSub, Int.reduceMul, Int.reduceNe, Nat.reducePow, Option.bind_none, decide_true, decide_false, Bool.not_eq_eq_eq_not, tf_sz3, tf_by3, tf_agg3, tf_int3, tf_el3, tf_und3, tf_z3, tf_zr3, tf_sz4, tf_by4, tf_agg4, tf_bool4, tf_el4, tf_und4, tf_z4, tf_zr4, tf_sz5, tf_by5, tf_agg5, tf_int5, tf_el5, tf_und5, tf_z5, tf_zr5, tf_sz9, tf_by9, tf_agg9, tf_str9, tf_el9, tf_und9, tf_z9, tf_zr9, tf_sz22, tf_by22, tf_agg22, tf_int22, tf_el22, tf_und22, tf_z22, tf_zr22, tf_sz24, tf_by24, tf_agg24, tf_el24, tf_und24, tf_z24, tf_pl24, tf_f24x0, tf_f24x1, tf_f24x2, tf_f24x3, tf_eq24, tf_zr24, tf_sz28, tf_by28, tf_agg28, tf_int28, tf_el28, tf_und28, tf_z28, tf_zr28]
    have key : IntKind.i64.wrap ((if 2 < w then 2 else w) + 1) = nextWrong w := by
      unfold nextWrong
      by_cases hw : w < 3
      · rw [if_pos hw, if_neg (by omega)]
      · rw [if_neg hw, if_pos (by omega)]; rfl
    rw [key]
    cases q
    · by_cases h1 : r < 1
      · have h1' : ¬ 1 ≤ r := by omega
        simp [settleR, settleCode, h1, h1']
      · have h1' : 1 ≤ r := by omega
        by_cases h2 : 3 ≤ nextWrong w <;> simp [settleR, settleCode, h1, h1', h2]
    · simp [settleR, settleCode]
  · cases h

theorem refSettle_ok : Sound Tryd.prog G0 11 0 settleF := by
  refine sound0 (Sp := Sp0) (c := Tryd.f11.body.getD .skip) hmix Sp0_ok Tryd.func11 rfl (by kernel_rfl) (by kernel_rfl) ?_
  intro ds r bx h
  unfold settleF at h
  split at h
  · rename_i s c r w q
    simp only [Option.some.injEq, Prod.mk.injEq] at h
    obtain ⟨rfl, rfl⟩ := h
    refine ⟨rfl, settle_flat s c r w q, by simp [Tryd.f11], ?_⟩
    unfold Tryd.f11
    simp only [Option.getD_some, ↓a_seq, ↓a_skip, ↓a_ret, ↓a_exit, ↓a_label, ↓a_region, ↓a_cond, ↓a_block, ↓then_normal, ↓then_exit, ↓then_ret, ↓block_normal, ↓block_exit, ↓block_ret, ↓r_nil, ↓r_cons, ↓r_guard, ↓guard_o, ↓guard_b, Option.bind_some, ↓s_move, ↓s_assign, ↓s_pick, ↓s_nil, ↓s_bin, ↓s_un, ↓s_build, ↓s_fieldAddr, ↓s_field, ↓s_indexAddr, ↓s_index, ↓s_slice, ↓s_extract, ↓s_func, ↓s_len, ↓s_min, ↓s_max, ↓s_load, ↓s_alloc, ↓s_box, ↓s_store, ↓s_append, ↓s_buildSlice, ↓s_range, ↓s_next, ↓go_some, ↓goM_some, ↓put_some, ↓put_none, ↓ret_normal, ↓ret_ret, ↓head_normal, ↓head_exit, ↓head_ret, S0, ev_tmp, ev_const, ev_func, upd_at, get0, get1, cond_b, cond_t, cond_f, pick_t, pick_f, nilD, extD, allocD, storeD, loadR, loadD, fieldAddrD, fieldD, buildD, fillD, b_int, b_str, i_add, i_sub, i_mul, i_and, i_or, i_xor, i_andNot, i_eql, i_neq, i_lss, i_leq, i_gtr, i_geq, s_eql, s_neq, u_not, u_neg, minD, maxD, lenD, nextD, ofV, D.fit, D.one, D.cells, D.pure, pureL, Mem.add, Mem.set, setCells, resOf, resD, callD, snapL, snap, indexAddrD, indexD, idx, sliceD, bound, c_int, c_str, s_conv, rowsOf, Mem.rows, Mem.cut, Nat.reduceBEq, Bool.false_eq_true, if_true, if_false, ite_true, ite_false, List.length_cons, List.length_nil, Nat.reduceAdd, Nat.reduceLeDiff, Nat.reduceLT, Nat.reduceEqDiff, List.take_succ_cons, List.take_zero, List.drop_succ_cons, List.drop_zero, Option.map_some, Option.map_none, List.map_nil, List.map_cons, and_self, Nat.le_refl, and_true, true_and, List.append_nil, List.nil_append, Option.some.injEq, List.getElem?_cons_zero, List.getElem?_cons_succ, Nat.zero_add, Nat.add_zero, Bool.not_true, Bool.not_false, decide_eq_true_eq, Bool.not_eq_true, eq_self, reduceIte, Bool.true_eq_false, reduceCtorEq, Bool.true_and, Bool.false_and, Bool.and_true, Bool.and_false, Int.cast_ofNat_Int, Int.reduceLE, Int.reduceLT, Int.reduceEq, Int.reduceAdd, Int.reduceToNat, UInt8.reduceToNat, Int.reduceMod, Int.reducePow, Int.reduceTMod, Int.reduceTDiv, Nat.reduceSub, Nat.reduceMul, Int.reduceGE, Int.reduceDiv, Int.reduceNeg, Int.reduceBNe, Int.reduceBEq, Int.reduceGT, Int.reduceSub, Int.reduceMul, Int.reduceNe, Nat.reducePow, Option.bind_none, decide_true, decide_false, Bool.not_eq_eq_eq_not, tf_sz3, tf_by3, tf_agg3, tf_int3, tf_el3, tf_und3, tf_z3, tf_zr3, tf_sz4, tf_by4, tf_agg4, tf_bool4, tf_el4, tf_und4, tf_z4, tf_zr4, tf_sz5, tf_by5, tf_agg5, tf_int5, tf_el5, tf_und5, tf_z5, tf_zr5, tf_sz9, tf_by9, tf_agg9, tf_str9, tf_el9, tf_und9, tf_z9, tf_zr9, tf_sz22, tf_by22, tf_agg22, tf_int22, tf_el22, tf_und22, tf_z22, tf_zr22, tf_sz24, tf_by24, tf_agg24, tf_el24, tf_und24, tf_z24, tf_pl24, tf_f24x0, tf_f24x1, tf_f24x2, tf_f24x3, tf_eq24, tf_zr24, tf_sz28, tf_by28, tf_agg28, tf_int28, tf_el28, tf_und28, tf_z28, tf_zr28]
    by_cases hw : w < 3
    · cases q
      · by_cases h1 : r < 1
        · have h1' : ¬ 1 ≤ r := by omega
          simp [settleR, settleCode, nextWrong, hw, h1, h1']
        · have h1' : 1 ≤ r := by omega
          by_cases h2 : 3 ≤ IntKind.i64.wrap (w + 1) <;> simp [settleR, settleCode, nextWrong, hw, h1, h1', h2]
      · simp [settleR, settleCode]
    · cases q
      · by_cases h1 : r < 1
        · have h1' : ¬ 1 ≤ r := by omega
          simp [settleR, settleCode, nextWrong, hw, h1, h1']
        · have h1' : 1 ≤ r := by omega
          simp [settleR, settleCode, nextWrong, hw, h1, h1']
      · simp [settleR, settleCode]
  · cases h

theorem new_ok : Sound Tryd.prog G0 12 0 newF := by
  refine sound0 (Sp := Sp0) (c := Tryd.f12.body.getD .skip) hmix Sp0_ok Tryd.func12 rfl (by kernel_rfl) (by kernel_rfl) ?_
  intro ds r bx h
  unfold newF at h
  split at h
  · rename_i c
    simp only [Option.some.injEq, Prod.mk.injEq] at h
    obtain ⟨rfl, rfl⟩ := h
    refine ⟨rfl, rfl, by simp [Tryd.f12], ?_⟩
    unfold Tryd.f12
    simp only [Option.getD_some, ↓a_seq, ↓a_skip, ↓a_ret, ↓a_exit, ↓a_label, ↓a_region, ↓a_cond, ↓a_block, ↓then_normal, ↓then_exit, ↓then_ret, ↓block_normal, ↓block_exit, ↓block_ret, ↓r_nil, ↓r_cons, ↓r_guard, ↓guard_o, ↓guard_b, Option.bind_some, ↓s_move, ↓s_assign, ↓s_pick, ↓s_nil, ↓s_bin, ↓s_un, ↓s_build, ↓s_fieldAddr, ↓s_field, ↓s_indexAddr, ↓s_index, ↓s_slice, ↓s_extract, ↓s_func, ↓s_len, ↓s_min, ↓s_max, ↓s_load, ↓s_alloc, ↓s_box, ↓s_store, ↓s_append, ↓s_buildSlice, ↓s_range, ↓s_next, ↓go_some, ↓goM_some, ↓put_some, ↓put_none, ↓ret_normal, ↓ret_ret, ↓head_normal, ↓head_exit, ↓head_ret, S0, ev_tmp, ev_const, ev_func, upd_at, get0, get1, cond_b, cond_t, cond_f, pick_t, pick_f, nilD, extD, allocD, storeD, loadR, loadD, fieldAddrD, fieldD, buildD, fillD, b_int, b_str, i_add, i_sub, i_mul, i_and, i_or, i_xor, i_andNot, i_eql, i_neq, i_lss, i_leq, i_gtr, i_geq, s_eql, s_neq, u_not, u_neg, minD, maxD, lenD, nextD, ofV, D.fit, D.one, D.cells, D.pure, pureL, Mem.add, Mem.set, setCells, resOf, resD, callD, snapL, snap, indexAddrD, indexD, idx, sliceD, bound, c_int, c_str, s_conv, rowsOf, Mem.rows, Mem.cut, Nat.reduceBEq, Bool.false_eq_true, if_true, if_false, ite_true, ite_false, List.length_cons, List.length_nil, Nat.reduceAdd, Nat.reduceLeDiff, Nat.reduceLT, Nat.reduceEqDiff, List.take_succ_cons, List.take_zero, List.drop_succ_cons, List.drop_zero, Option.map_some, Option.map_none, List.map_nil, List.map_cons, and_self, Nat.le_refl, and_true, true_and, List.append_nil, List.nil_append, Option.some.injEq, List.getElem?_cons_zero, List.getElem?_cons_succ, Nat.zero_add, Nat.add_zero, Bool.not_true, Bool.not_false, decide_eq_true_eq, Bool.not_eq_true, eq_self, reduceIte, Bool.true_eq_false, reduceCtorEq, Bool.true_and, Bool.false_and, Bool.and_true, Bool.and_false, Int.cast_ofNat_Int, Int.reduceLE, Int.reduceLT, Int.reduceEq, Int.reduceAdd, Int.reduceToNat, UInt8.reduceToNat, Int.reduceMod, Int.reducePow, Int.reduceTMod, Int.reduceTDiv, Nat.reduceSub, Nat.reduceMul, Int.reduceGE, Int.reduceDiv, Int.reduceNeg, Int.reduceBNe, Int.reduceBEq, Int.reduceGT, Int.reduceSub, Int.reduceMul, Int.reduceNe, Nat.reducePow, Option.bind_none, decide_true, decide_false, Bool.not_eq_eq_eq_not, tf_sz3, tf_by3, tf_agg3, tf_int3, tf_el3, tf_und3, tf_z3, tf_zr3, tf_sz4, tf_by4, tf_agg4, tf_bool4, tf_el4, tf_und4, tf_z4, tf_zr4, tf_sz5, tf_by5, tf_agg5, tf_int5, tf_el5, tf_und5, tf_z5, tf_zr5, tf_sz9, tf_by9, tf_agg9, tf_str9, tf_el9, tf_und9, tf_z9, tf_zr9, tf_sz22, tf_by22, tf_agg22, tf_int22, tf_el22, tf_und22, tf_z22, tf_zr22, tf_sz24, tf_by24, tf_agg24, tf_el24, tf_und24, tf_z24, tf_pl24, tf_f24x0, tf_f24x1, tf_f24x2, tf_f24x3, tf_eq24, tf_zr24, tf_sz28, tf_by28, tf_agg28, tf_int28, tf_el28, tf_und28, tf_z28, tf_zr28]
  · cases h

theorem refNew_ok : Sound Tryd.prog G0 13 0 newF := by
  refine sound0 (Sp := Sp0) (c := Tryd.f13.body.getD .skip) hmix Sp0_ok Tryd.func13 rfl (by kernel_rfl) (by kernel_rfl) ?_
  intro ds r bx h
  unfold newF at h
  split at h
  · rename_i c
    simp only [Option.some.injEq, Prod.mk.injEq] at h
    obtain ⟨rfl, rfl⟩ := h
    refine ⟨rfl, rfl, by simp [Tryd.f13], ?_⟩
    unfold Tryd.f13
    simp only [Option.getD_some, ↓a_seq, ↓a_skip, ↓a_ret, ↓a_exit, ↓a_label, ↓a_region, ↓a_cond, ↓a_block, ↓then_normal, ↓then_exit, ↓then_ret, ↓block_normal, ↓block_exit, ↓block_ret, ↓r_nil, ↓r_cons, ↓r_guard, ↓guard_o, ↓guard_b, Option.bind_some, ↓s_move, ↓s_assign, ↓s_pick, ↓s_nil, ↓s_bin, ↓s_un, ↓s_build, ↓s_fieldAddr, ↓s_field, ↓s_indexAddr, ↓s_index, ↓s_slice, ↓s_extract, ↓s_func, ↓s_len, ↓s_min, ↓s_max, ↓s_load, ↓s_alloc, ↓s_box, ↓s_store, ↓s_append, ↓s_buildSlice, ↓s_range, ↓s_next, ↓go_some, ↓goM_some, ↓put_some, ↓put_none, ↓ret_normal, ↓ret_ret, ↓head_normal, ↓head_exit, ↓head_ret, S0, ev_tmp, ev_const, ev_func, upd_at, get0, get1, cond_b, cond_t, cond_f, pick_t, pick_f, nilD, extD, allocD, storeD, loadR, loadD, fieldAddrD, fieldD, buildD, fillD, b_int, b_str, i_add, i_sub, i_mul, i_and, i_or, i_xor, i_andNot, i_eql, i_neq, i_lss, i_leq, i_gtr, i_geq, s_eql, s_neq, u_not, u_neg, minD, maxD, lenD, nextD, ofV, D.fit, D.one, D.cells, D.pure, pureL, Mem.add, Mem.set, setCells, resOf, resD, callD, snapL, snap, indexAddrD, indexD, idx, sliceD, bound, c_int, c_str, s_conv, rowsOf, Mem.rows, Mem.cut, Nat.reduceBEq, Bool.false_eq_true, if_true, if_false, ite_true, ite_false, List.length_cons, List.length_nil, Nat.reduceAdd, Nat.reduceLeDiff, Nat.reduceLT, Nat.reduceEqDiff, List.take_succ_cons, List.take_zero, List.drop_succ_cons, List.drop_zero, Option.map_some, Option.map_none, List.map_nil, List.map_cons, and_self, Nat.le_refl, and_true, true_and, List.append_nil, List.nil_append, Option.some.injEq, List.getElem?_cons_zero, List.getElem?_cons_succ, Nat.zero_add, Nat.add_zero, Bool.not_true, Bool.not_false, decide_eq_true_eq, Bool.not_eq_true, eq_self, reduceIte, Bool.true_eq_false, reduceCtorEq, Bool.true_and, Bool.false_and, Bool.and_true, Bool.and_false, Int.cast_ofNat_Int, Int.reduceLE, Int.reduceLT, Int.reduceEq, Int.reduceAdd, Int.reduceToNat, UInt8.reduceToNat, Int.reduceMod, Int.reducePow, Int.reduceTMod, Int.reduceTDiv, Nat.reduceSub, Nat.reduceMul, Int.reduceGE, Int.reduceDiv, Int.reduceNeg, Int.reduceBNe, Int.reduceBEq, Int.reduceGT, Int.reduceSub, Int.reduceMul, Int.reduceNe, Nat.reducePow, Option.bind_none, decide_true, decide_false, Bool.not_eq_eq_eq_not, tf_sz3, tf_by3, tf_agg3, tf_int3, tf_el3, tf_und3, tf_z3, tf_zr3, tf_sz4, tf_by4, tf_agg4, tf_bool4, tf_el4, tf_und4, tf_z4, tf_zr4, tf_sz5, tf_by5, tf_agg5, tf_int5, tf_el5, tf_und5, tf_z5, tf_zr5, tf_sz9, tf_by9, tf_agg9, tf_str9, tf_el9, tf_und9, tf_z9, tf_zr9, tf_sz22, tf_by22, tf_agg22, tf_int22, tf_el22, tf_und22, tf_z22, tf_zr22, tf_sz24, tf_by24, tf_agg24, tf_el24, tf_und24, tf_z24, tf_pl24, tf_f24x0, tf_f24x1, tf_f24x2, tf_f24x3, tf_eq24, tf_zr24, tf_sz28, tf_by28, tf_agg28, tf_int28, tf_el28, tf_und28, tf_z28, tf_zr28]
  · cases h
end Go.Proofs.YtlbafgkhnhkanaaDoor
