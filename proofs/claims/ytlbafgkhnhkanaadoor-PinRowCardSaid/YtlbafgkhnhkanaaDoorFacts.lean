/- Closed facts on the types of the translation, each by the kernel. No condition. -/
import Derived.Test.YtlbafgkhnhkanaaDoorAbsS
import Derived.Test.YtlbafgkhnhkanaaDoorRows
namespace Go.Proofs.YtlbafgkhnhkanaaDoor
open Go Go.Abs
theorem hmix : Tryd.prog.follows .mixedOrders = true := by kernel_rfl
theorem tf_sz0 : tsz Tryd.prog 0 = some 1 := by kernel_rfl
theorem tf_by0 : tbytes Tryd.prog 0 = some 0 := by kernel_rfl
theorem tf_agg0 : tagg Tryd.prog 0 = some false := by kernel_rfl
theorem tf_el0 : telem Tryd.prog 0 = none := by kernel_rfl
theorem tf_und0 : (Tryd.prog.underlying 0).isSome = true := by kernel_rfl
theorem tf_z0 : tzero Tryd.prog 0 = some (.dead) := by kernel_rfl
theorem tf_sz1 : tsz Tryd.prog 1 = some 1 := by kernel_rfl
theorem tf_by1 : tbytes Tryd.prog 1 = some 8 := by kernel_rfl
theorem tf_agg1 : tagg Tryd.prog 1 = some false := by kernel_rfl
theorem tf_el1 : telem Tryd.prog 1 = none := by kernel_rfl
theorem tf_und1 : (Tryd.prog.underlying 1).isSome = true := by kernel_rfl
theorem tf_z1 : tzero Tryd.prog 1 = some (.lit .nilFunc) := by kernel_rfl
theorem tf_zr1 : zrow Tryd.prog 1 1 = some [.lit .nilFunc] := by kernel_rfl
theorem tf_sz2 : tsz Tryd.prog 2 = some 1 := by kernel_rfl
theorem tf_by2 : tbytes Tryd.prog 2 = some 8 := by kernel_rfl
theorem tf_agg2 : tagg Tryd.prog 2 = some false := by kernel_rfl
theorem tf_int2 : tint Tryd.prog 2 = some .i64 := by kernel_rfl
theorem tf_el2 : telem Tryd.prog 2 = none := by kernel_rfl
theorem tf_und2 : (Tryd.prog.underlying 2).isSome = true := by kernel_rfl
theorem tf_z2 : tzero Tryd.prog 2 = some (.int .i64 0) := by kernel_rfl
theorem tf_zr2 : zrow Tryd.prog 2 1 = some [.int .i64 0] := by kernel_rfl
theorem tf_sz3 : tsz Tryd.prog 3 = some 1 := by kernel_rfl
theorem tf_by3 : tbytes Tryd.prog 3 = some 8 := by kernel_rfl
theorem tf_agg3 : tagg Tryd.prog 3 = some false := by kernel_rfl
theorem tf_int3 : tint Tryd.prog 3 = some .i64 := by kernel_rfl
theorem tf_el3 : telem Tryd.prog 3 = none := by kernel_rfl
theorem tf_und3 : (Tryd.prog.underlying 3).isSome = true := by kernel_rfl
theorem tf_z3 : tzero Tryd.prog 3 = some (.int .i64 0) := by kernel_rfl
theorem tf_zr3 : zrow Tryd.prog 3 1 = some [.int .i64 0] := by kernel_rfl
theorem tf_sz4 : tsz Tryd.prog 4 = some 1 := by kernel_rfl
theorem tf_by4 : tbytes Tryd.prog 4 = some 1 := by kernel_rfl
theorem tf_agg4 : tagg Tryd.prog 4 = some false := by kernel_rfl
theorem tf_bool4 : tbool Tryd.prog 4 = true := by kernel_rfl
theorem tf_el4 : telem Tryd.prog 4 = none := by kernel_rfl
theorem tf_und4 : (Tryd.prog.underlying 4).isSome = true := by kernel_rfl
theorem tf_z4 : tzero Tryd.prog 4 = some (.bool false) := by kernel_rfl
theorem tf_zr4 : zrow Tryd.prog 4 1 = some [.bool false] := by kernel_rfl
theorem tf_sz5 : tsz Tryd.prog 5 = some 1 := by kernel_rfl
theorem tf_by5 : tbytes Tryd.prog 5 = some 1 := by kernel_rfl
theorem tf_agg5 : tagg Tryd.prog 5 = some false := by kernel_rfl
theorem tf_int5 : tint Tryd.prog 5 = some .u8 := by kernel_rfl
theorem tf_el5 : telem Tryd.prog 5 = none := by kernel_rfl
theorem tf_und5 : (Tryd.prog.underlying 5).isSome = true := by kernel_rfl
theorem tf_z5 : tzero Tryd.prog 5 = some (.int .u8 0) := by kernel_rfl
theorem tf_zr5 : zrow Tryd.prog 5 1 = some [.int .u8 0] := by kernel_rfl
theorem tf_sz9 : tsz Tryd.prog 9 = some 1 := by kernel_rfl
theorem tf_by9 : tbytes Tryd.prog 9 = some 16 := by kernel_rfl
theorem tf_agg9 : tagg Tryd.prog 9 = some false := by kernel_rfl
theorem tf_str9 : tstr Tryd.prog 9 = true := by kernel_rfl
theorem tf_el9 : telem Tryd.prog 9 = none := by kernel_rfl
theorem tf_und9 : (Tryd.prog.underlying 9).isSome = true := by kernel_rfl
theorem tf_z9 : tzero Tryd.prog 9 = some (.str []) := by kernel_rfl
theorem tf_zr9 : zrow Tryd.prog 9 1 = some [.str []] := by kernel_rfl
theorem tf_sz12 : tsz Tryd.prog 12 = some 1 := by kernel_rfl
theorem tf_by12 : tbytes Tryd.prog 12 = some 8 := by kernel_rfl
theorem tf_agg12 : tagg Tryd.prog 12 = some false := by kernel_rfl
theorem tf_int12 : tint Tryd.prog 12 = some .u64 := by kernel_rfl
theorem tf_el12 : telem Tryd.prog 12 = none := by kernel_rfl
theorem tf_und12 : (Tryd.prog.underlying 12).isSome = true := by kernel_rfl
theorem tf_z12 : tzero Tryd.prog 12 = some (.int .u64 0) := by kernel_rfl
theorem tf_zr12 : zrow Tryd.prog 12 1 = some [.int .u64 0] := by kernel_rfl
theorem tf_sz13 : tsz Tryd.prog 13 = some 2 := by kernel_rfl
theorem tf_by13 : tbytes Tryd.prog 13 = some 24 := by kernel_rfl
theorem tf_agg13 : tagg Tryd.prog 13 = some true := by kernel_rfl
theorem tf_el13 : telem Tryd.prog 13 = none := by kernel_rfl
theorem tf_und13 : (Tryd.prog.underlying 13).isSome = true := by kernel_rfl
theorem tf_z13 : tzero Tryd.prog 13 = some (.agg [.str [], .int .u64 0]) := by kernel_rfl
theorem tf_pl13 : tplaces Tryd.prog 13 = some [(0, 1), (1, 1)] := by kernel_rfl
theorem tf_f13x0 : tfld Tryd.prog 13 0 = some (0, 9) := by kernel_rfl
theorem tf_f13x1 : tfld Tryd.prog 13 1 = some (1, 12) := by kernel_rfl
theorem tf_zr13 : zrow Tryd.prog 13 2 = some [.str [], .int .u64 0] := by kernel_rfl
theorem tf_sz20 : tsz Tryd.prog 20 = some 1 := by kernel_rfl
theorem tf_by20 : tbytes Tryd.prog 20 = some 16 := by kernel_rfl
theorem tf_agg20 : tagg Tryd.prog 20 = some false := by kernel_rfl
theorem tf_el20 : telem Tryd.prog 20 = none := by kernel_rfl
theorem tf_und20 : (Tryd.prog.underlying 20).isSome = true := by kernel_rfl
theorem tf_z20 : tzero Tryd.prog 20 = some (.lit .nilIface) := by kernel_rfl
theorem tf_zr20 : zrow Tryd.prog 20 1 = some [.lit .nilIface] := by kernel_rfl
theorem tf_sz21 : tsz Tryd.prog 21 = some 1 := by kernel_rfl
theorem tf_by21 : tbytes Tryd.prog 21 = some 4 := by kernel_rfl
theorem tf_agg21 : tagg Tryd.prog 21 = some false := by kernel_rfl
theorem tf_int21 : tint Tryd.prog 21 = some .i32 := by kernel_rfl
theorem tf_el21 : telem Tryd.prog 21 = none := by kernel_rfl
theorem tf_und21 : (Tryd.prog.underlying 21).isSome = true := by kernel_rfl
theorem tf_z21 : tzero Tryd.prog 21 = some (.int .i32 0) := by kernel_rfl
theorem tf_zr21 : zrow Tryd.prog 21 1 = some [.int .i32 0] := by kernel_rfl
theorem tf_sz22 : tsz Tryd.prog 22 = some 1 := by kernel_rfl
theorem tf_by22 : tbytes Tryd.prog 22 = some 8 := by kernel_rfl
theorem tf_agg22 : tagg Tryd.prog 22 = some false := by kernel_rfl
theorem tf_int22 : tint Tryd.prog 22 = some .u64 := by kernel_rfl
theorem tf_el22 : telem Tryd.prog 22 = none := by kernel_rfl
theorem tf_und22 : (Tryd.prog.underlying 22).isSome = true := by kernel_rfl
theorem tf_z22 : tzero Tryd.prog 22 = some (.int .u64 0) := by kernel_rfl
theorem tf_zr22 : zrow Tryd.prog 22 1 = some [.int .u64 0] := by kernel_rfl
theorem tf_sz23 : tsz Tryd.prog 23 = some 4 := by kernel_rfl
theorem tf_by23 : tbytes Tryd.prog 23 = some 32 := by kernel_rfl
theorem tf_agg23 : tagg Tryd.prog 23 = some true := by kernel_rfl
theorem tf_el23 : telem Tryd.prog 23 = none := by kernel_rfl
theorem tf_und23 : (Tryd.prog.underlying 23).isSome = true := by kernel_rfl
theorem tf_z23 : tzero Tryd.prog 23 = some (.agg [.bool false, .int .u64 0, .int .i64 0, .int .i64 0]) := by kernel_rfl
theorem tf_pl23 : tplaces Tryd.prog 23 = some [(0, 1), (1, 1), (2, 1), (3, 1)] := by kernel_rfl
theorem tf_f23x0 : tfld Tryd.prog 23 0 = some (0, 4) := by kernel_rfl
theorem tf_f23x1 : tfld Tryd.prog 23 1 = some (1, 22) := by kernel_rfl
theorem tf_f23x2 : tfld Tryd.prog 23 2 = some (2, 3) := by kernel_rfl
theorem tf_f23x3 : tfld Tryd.prog 23 3 = some (3, 3) := by kernel_rfl
theorem tf_eq23 : flatEq Tryd.prog 23 = some [1, 3, 3, 3] := by kernel_rfl
theorem tf_zr23 : zrow Tryd.prog 23 4 = some [.bool false, .int .u64 0, .int .i64 0, .int .i64 0] := by kernel_rfl
theorem tf_sz24 : tsz Tryd.prog 24 = some 4 := by kernel_rfl
theorem tf_by24 : tbytes Tryd.prog 24 = some 32 := by kernel_rfl
theorem tf_agg24 : tagg Tryd.prog 24 = some true := by kernel_rfl
theorem tf_el24 : telem Tryd.prog 24 = none := by kernel_rfl
theorem tf_und24 : (Tryd.prog.underlying 24).isSome = true := by kernel_rfl
theorem tf_z24 : tzero Tryd.prog 24 = some (.agg [.bool false, .int .u64 0, .int .i64 0, .int .i64 0]) := by kernel_rfl
theorem tf_pl24 : tplaces Tryd.prog 24 = some [(0, 1), (1, 1), (2, 1), (3, 1)] := by kernel_rfl
theorem tf_f24x0 : tfld Tryd.prog 24 0 = some (0, 4) := by kernel_rfl
theorem tf_f24x1 : tfld Tryd.prog 24 1 = some (1, 22) := by kernel_rfl
theorem tf_f24x2 : tfld Tryd.prog 24 2 = some (2, 3) := by kernel_rfl
theorem tf_f24x3 : tfld Tryd.prog 24 3 = some (3, 3) := by kernel_rfl
theorem tf_eq24 : flatEq Tryd.prog 24 = some [1, 3, 3, 3] := by kernel_rfl
theorem tf_zr24 : zrow Tryd.prog 24 4 = some [.bool false, .int .u64 0, .int .i64 0, .int .i64 0] := by kernel_rfl
theorem tf_sz25 : tsz Tryd.prog 25 = some 1 := by kernel_rfl
theorem tf_by25 : tbytes Tryd.prog 25 = some 2 := by kernel_rfl
theorem tf_agg25 : tagg Tryd.prog 25 = some false := by kernel_rfl
theorem tf_int25 : tint Tryd.prog 25 = some .u16 := by kernel_rfl
theorem tf_el25 : telem Tryd.prog 25 = none := by kernel_rfl
theorem tf_und25 : (Tryd.prog.underlying 25).isSome = true := by kernel_rfl
theorem tf_z25 : tzero Tryd.prog 25 = some (.int .u16 0) := by kernel_rfl
theorem tf_zr25 : zrow Tryd.prog 25 1 = some [.int .u16 0] := by kernel_rfl
theorem tf_sz26 : tsz Tryd.prog 26 = some 1 := by kernel_rfl
theorem tf_by26 : tbytes Tryd.prog 26 = some 8 := by kernel_rfl
theorem tf_agg26 : tagg Tryd.prog 26 = some false := by kernel_rfl
theorem tf_int26 : tint Tryd.prog 26 = some .u64 := by kernel_rfl
theorem tf_el26 : telem Tryd.prog 26 = none := by kernel_rfl
theorem tf_und26 : (Tryd.prog.underlying 26).isSome = true := by kernel_rfl
theorem tf_z26 : tzero Tryd.prog 26 = some (.int .u64 0) := by kernel_rfl
theorem tf_zr26 : zrow Tryd.prog 26 1 = some [.int .u64 0] := by kernel_rfl
theorem tf_sz27 : tsz Tryd.prog 27 = some 1 := by kernel_rfl
theorem tf_by27 : tbytes Tryd.prog 27 = some 24 := by kernel_rfl
theorem tf_agg27 : tagg Tryd.prog 27 = some false := by kernel_rfl
theorem tf_el27 : telem Tryd.prog 27 = some 24 := by kernel_rfl
theorem tf_und27 : (Tryd.prog.underlying 27).isSome = true := by kernel_rfl
theorem tf_z27 : tzero Tryd.prog 27 = some (.nils) := by kernel_rfl
theorem tf_zr27 : zrow Tryd.prog 27 1 = some [.nils] := by kernel_rfl
theorem tf_sz28 : tsz Tryd.prog 28 = some 1 := by kernel_rfl
theorem tf_by28 : tbytes Tryd.prog 28 = some 8 := by kernel_rfl
theorem tf_agg28 : tagg Tryd.prog 28 = some false := by kernel_rfl
theorem tf_int28 : tint Tryd.prog 28 = some .i64 := by kernel_rfl
theorem tf_el28 : telem Tryd.prog 28 = none := by kernel_rfl
theorem tf_und28 : (Tryd.prog.underlying 28).isSome = true := by kernel_rfl
theorem tf_z28 : tzero Tryd.prog 28 = some (.int .i64 0) := by kernel_rfl
theorem tf_zr28 : zrow Tryd.prog 28 1 = some [.int .i64 0] := by kernel_rfl
theorem tf_sz29 : tsz Tryd.prog 29 = some 1 := by kernel_rfl
theorem tf_by29 : tbytes Tryd.prog 29 = some 0 := by kernel_rfl
theorem tf_agg29 : tagg Tryd.prog 29 = some false := by kernel_rfl
theorem tf_el29 : telem Tryd.prog 29 = none := by kernel_rfl
theorem tf_und29 : (Tryd.prog.underlying 29).isSome = true := by kernel_rfl
theorem tf_z29 : tzero Tryd.prog 29 = some (.dead) := by kernel_rfl
theorem tf_sz30 : tsz Tryd.prog 30 = some 1 := by kernel_rfl
theorem tf_by30 : tbytes Tryd.prog 30 = some 8 := by kernel_rfl
theorem tf_agg30 : tagg Tryd.prog 30 = some false := by kernel_rfl
theorem tf_el30 : telem Tryd.prog 30 = none := by kernel_rfl
theorem tf_und30 : (Tryd.prog.underlying 30).isSome = true := by kernel_rfl
theorem tf_z30 : tzero Tryd.prog 30 = some (.lit .nilFunc) := by kernel_rfl
theorem tf_zr30 : zrow Tryd.prog 30 1 = some [.lit .nilFunc] := by kernel_rfl
theorem tf_sz31 : tsz Tryd.prog 31 = some 1 := by kernel_rfl
theorem tf_by31 : tbytes Tryd.prog 31 = some 8 := by kernel_rfl
theorem tf_agg31 : tagg Tryd.prog 31 = some false := by kernel_rfl
theorem tf_el31 : telem Tryd.prog 31 = none := by kernel_rfl
theorem tf_und31 : (Tryd.prog.underlying 31).isSome = true := by kernel_rfl
theorem tf_z31 : tzero Tryd.prog 31 = some (.lit .nilFunc) := by kernel_rfl
theorem tf_zr31 : zrow Tryd.prog 31 1 = some [.lit .nilFunc] := by kernel_rfl
theorem tf_sz32 : tsz Tryd.prog 32 = some 1 := by kernel_rfl
theorem tf_by32 : tbytes Tryd.prog 32 = some 8 := by kernel_rfl
theorem tf_agg32 : tagg Tryd.prog 32 = some false := by kernel_rfl
theorem tf_el32 : telem Tryd.prog 32 = none := by kernel_rfl
theorem tf_und32 : (Tryd.prog.underlying 32).isSome = true := by kernel_rfl
theorem tf_z32 : tzero Tryd.prog 32 = some (.lit .nilFunc) := by kernel_rfl
theorem tf_zr32 : zrow Tryd.prog 32 1 = some [.lit .nilFunc] := by kernel_rfl
theorem tf_sz33 : tsz Tryd.prog 33 = some 1 := by kernel_rfl
theorem tf_by33 : tbytes Tryd.prog 33 = some 8 := by kernel_rfl
theorem tf_agg33 : tagg Tryd.prog 33 = some false := by kernel_rfl
theorem tf_el33 : telem Tryd.prog 33 = none := by kernel_rfl
theorem tf_und33 : (Tryd.prog.underlying 33).isSome = true := by kernel_rfl
theorem tf_z33 : tzero Tryd.prog 33 = some (.lit .nilFunc) := by kernel_rfl
theorem tf_zr33 : zrow Tryd.prog 33 1 = some [.lit .nilFunc] := by kernel_rfl
theorem tf_sz34 : tsz Tryd.prog 34 = some 1 := by kernel_rfl
theorem tf_by34 : tbytes Tryd.prog 34 = some 8 := by kernel_rfl
theorem tf_agg34 : tagg Tryd.prog 34 = some false := by kernel_rfl
theorem tf_el34 : telem Tryd.prog 34 = none := by kernel_rfl
theorem tf_und34 : (Tryd.prog.underlying 34).isSome = true := by kernel_rfl
theorem tf_z34 : tzero Tryd.prog 34 = some (.lit .nilFunc) := by kernel_rfl
theorem tf_zr34 : zrow Tryd.prog 34 1 = some [.lit .nilFunc] := by kernel_rfl
theorem tf_sz35 : tsz Tryd.prog 35 = some 1 := by kernel_rfl
theorem tf_by35 : tbytes Tryd.prog 35 = some 24 := by kernel_rfl
theorem tf_agg35 : tagg Tryd.prog 35 = some false := by kernel_rfl
theorem tf_el35 : telem Tryd.prog 35 = some 5 := by kernel_rfl
theorem tf_und35 : (Tryd.prog.underlying 35).isSome = true := by kernel_rfl
theorem tf_z35 : tzero Tryd.prog 35 = some (.nils) := by kernel_rfl
theorem tf_zr35 : zrow Tryd.prog 35 1 = some [.nils] := by kernel_rfl
theorem tf_sz36 : tsz Tryd.prog 36 = some 1 := by kernel_rfl
theorem tf_by36 : tbytes Tryd.prog 36 = some 8 := by kernel_rfl
theorem tf_agg36 : tagg Tryd.prog 36 = some false := by kernel_rfl
theorem tf_el36 : telem Tryd.prog 36 = none := by kernel_rfl
theorem tf_und36 : (Tryd.prog.underlying 36).isSome = true := by kernel_rfl
theorem tf_z36 : tzero Tryd.prog 36 = some (.lit .nilFunc) := by kernel_rfl
theorem tf_zr36 : zrow Tryd.prog 36 1 = some [.lit .nilFunc] := by kernel_rfl
theorem tf_sz37 : tsz Tryd.prog 37 = some 1 := by kernel_rfl
theorem tf_by37 : tbytes Tryd.prog 37 = some 8 := by kernel_rfl
theorem tf_agg37 : tagg Tryd.prog 37 = some false := by kernel_rfl
theorem tf_el37 : telem Tryd.prog 37 = none := by kernel_rfl
theorem tf_und37 : (Tryd.prog.underlying 37).isSome = true := by kernel_rfl
theorem tf_z37 : tzero Tryd.prog 37 = some (.lit .nilFunc) := by kernel_rfl
theorem tf_zr37 : zrow Tryd.prog 37 1 = some [.lit .nilFunc] := by kernel_rfl
theorem tf_sz38 : tsz Tryd.prog 38 = some 1 := by kernel_rfl
theorem tf_by38 : tbytes Tryd.prog 38 = some 8 := by kernel_rfl
theorem tf_agg38 : tagg Tryd.prog 38 = some false := by kernel_rfl
theorem tf_el38 : telem Tryd.prog 38 = none := by kernel_rfl
theorem tf_und38 : (Tryd.prog.underlying 38).isSome = true := by kernel_rfl
theorem tf_z38 : tzero Tryd.prog 38 = some (.lit .nilFunc) := by kernel_rfl
theorem tf_zr38 : zrow Tryd.prog 38 1 = some [.lit .nilFunc] := by kernel_rfl
theorem tf_sz39 : tsz Tryd.prog 39 = some 1 := by kernel_rfl
theorem tf_by39 : tbytes Tryd.prog 39 = some 8 := by kernel_rfl
theorem tf_agg39 : tagg Tryd.prog 39 = some false := by kernel_rfl
theorem tf_el39 : telem Tryd.prog 39 = none := by kernel_rfl
theorem tf_und39 : (Tryd.prog.underlying 39).isSome = true := by kernel_rfl
theorem tf_z39 : tzero Tryd.prog 39 = some (.lit .nilFunc) := by kernel_rfl
theorem tf_zr39 : zrow Tryd.prog 39 1 = some [.lit .nilFunc] := by kernel_rfl
theorem tf_sz40 : tsz Tryd.prog 40 = some 1 := by kernel_rfl
theorem tf_by40 : tbytes Tryd.prog 40 = some 8 := by kernel_rfl
theorem tf_agg40 : tagg Tryd.prog 40 = some false := by kernel_rfl
theorem tf_el40 : telem Tryd.prog 40 = none := by kernel_rfl
theorem tf_und40 : (Tryd.prog.underlying 40).isSome = true := by kernel_rfl
theorem tf_z40 : tzero Tryd.prog 40 = some (.lit .nilFunc) := by kernel_rfl
theorem tf_zr40 : zrow Tryd.prog 40 1 = some [.lit .nilFunc] := by kernel_rfl
theorem tf_sz41 : tsz Tryd.prog 41 = some 1 := by kernel_rfl
theorem tf_by41 : tbytes Tryd.prog 41 = some 8 := by kernel_rfl
theorem tf_agg41 : tagg Tryd.prog 41 = some false := by kernel_rfl
theorem tf_el41 : telem Tryd.prog 41 = none := by kernel_rfl
theorem tf_und41 : (Tryd.prog.underlying 41).isSome = true := by kernel_rfl
theorem tf_z41 : tzero Tryd.prog 41 = some (.lit .nilFunc) := by kernel_rfl
theorem tf_zr41 : zrow Tryd.prog 41 1 = some [.lit .nilFunc] := by kernel_rfl
theorem tf_sz42 : tsz Tryd.prog 42 = some 1 := by kernel_rfl
theorem tf_by42 : tbytes Tryd.prog 42 = some 8 := by kernel_rfl
theorem tf_agg42 : tagg Tryd.prog 42 = some false := by kernel_rfl
theorem tf_el42 : telem Tryd.prog 42 = none := by kernel_rfl
theorem tf_und42 : (Tryd.prog.underlying 42).isSome = true := by kernel_rfl
theorem tf_z42 : tzero Tryd.prog 42 = some (.lit .nilFunc) := by kernel_rfl
theorem tf_zr42 : zrow Tryd.prog 42 1 = some [.lit .nilFunc] := by kernel_rfl
theorem tf_sz43 : tsz Tryd.prog 43 = some 1 := by kernel_rfl
theorem tf_by43 : tbytes Tryd.prog 43 = some 8 := by kernel_rfl
theorem tf_agg43 : tagg Tryd.prog 43 = some false := by kernel_rfl
theorem tf_el43 : telem Tryd.prog 43 = none := by kernel_rfl
theorem tf_und43 : (Tryd.prog.underlying 43).isSome = true := by kernel_rfl
theorem tf_z43 : tzero Tryd.prog 43 = some (.lit .nilFunc) := by kernel_rfl
theorem tf_zr43 : zrow Tryd.prog 43 1 = some [.lit .nilFunc] := by kernel_rfl
theorem tf_sz44 : tsz Tryd.prog 44 = some 1 := by kernel_rfl
theorem tf_by44 : tbytes Tryd.prog 44 = some 24 := by kernel_rfl
theorem tf_agg44 : tagg Tryd.prog 44 = some false := by kernel_rfl
theorem tf_el44 : telem Tryd.prog 44 = some 9 := by kernel_rfl
theorem tf_und44 : (Tryd.prog.underlying 44).isSome = true := by kernel_rfl
theorem tf_z44 : tzero Tryd.prog 44 = some (.nils) := by kernel_rfl
theorem tf_zr44 : zrow Tryd.prog 44 1 = some [.nils] := by kernel_rfl
theorem tf_sz45 : tsz Tryd.prog 45 = some 1 := by kernel_rfl
theorem tf_by45 : tbytes Tryd.prog 45 = some 8 := by kernel_rfl
theorem tf_agg45 : tagg Tryd.prog 45 = some false := by kernel_rfl
theorem tf_el45 : telem Tryd.prog 45 = none := by kernel_rfl
theorem tf_und45 : (Tryd.prog.underlying 45).isSome = true := by kernel_rfl
theorem tf_z45 : tzero Tryd.prog 45 = some (.lit .nilFunc) := by kernel_rfl
theorem tf_zr45 : zrow Tryd.prog 45 1 = some [.lit .nilFunc] := by kernel_rfl
theorem tf_sz46 : tsz Tryd.prog 46 = some 1 := by kernel_rfl
theorem tf_by46 : tbytes Tryd.prog 46 = some 8 := by kernel_rfl
theorem tf_agg46 : tagg Tryd.prog 46 = some false := by kernel_rfl
theorem tf_el46 : telem Tryd.prog 46 = none := by kernel_rfl
theorem tf_und46 : (Tryd.prog.underlying 46).isSome = true := by kernel_rfl
theorem tf_z46 : tzero Tryd.prog 46 = some (.lit .nilFunc) := by kernel_rfl
theorem tf_zr46 : zrow Tryd.prog 46 1 = some [.lit .nilFunc] := by kernel_rfl
theorem tf_sz47 : tsz Tryd.prog 47 = some 1 := by kernel_rfl
theorem tf_by47 : tbytes Tryd.prog 47 = some 0 := by kernel_rfl
theorem tf_agg47 : tagg Tryd.prog 47 = some false := by kernel_rfl
theorem tf_el47 : telem Tryd.prog 47 = none := by kernel_rfl
theorem tf_und47 : (Tryd.prog.underlying 47).isSome = true := by kernel_rfl
theorem tf_z47 : tzero Tryd.prog 47 = some (.dead) := by kernel_rfl
theorem tf_sz48 : tsz Tryd.prog 48 = some 1 := by kernel_rfl
theorem tf_by48 : tbytes Tryd.prog 48 = some 8 := by kernel_rfl
theorem tf_agg48 : tagg Tryd.prog 48 = some false := by kernel_rfl
theorem tf_el48 : telem Tryd.prog 48 = none := by kernel_rfl
theorem tf_und48 : (Tryd.prog.underlying 48).isSome = true := by kernel_rfl
theorem tf_z48 : tzero Tryd.prog 48 = some (.lit .nilFunc) := by kernel_rfl
theorem tf_zr48 : zrow Tryd.prog 48 1 = some [.lit .nilFunc] := by kernel_rfl
theorem tf_sz49 : tsz Tryd.prog 49 = some 1 := by kernel_rfl
theorem tf_by49 : tbytes Tryd.prog 49 = some 8 := by kernel_rfl
theorem tf_agg49 : tagg Tryd.prog 49 = some false := by kernel_rfl
theorem tf_el49 : telem Tryd.prog 49 = none := by kernel_rfl
theorem tf_und49 : (Tryd.prog.underlying 49).isSome = true := by kernel_rfl
theorem tf_z49 : tzero Tryd.prog 49 = some (.lit .nilFunc) := by kernel_rfl
theorem tf_zr49 : zrow Tryd.prog 49 1 = some [.lit .nilFunc] := by kernel_rfl
theorem tf_sz50 : tsz Tryd.prog 50 = some 1 := by kernel_rfl
theorem tf_by50 : tbytes Tryd.prog 50 = some 8 := by kernel_rfl
theorem tf_agg50 : tagg Tryd.prog 50 = some false := by kernel_rfl
theorem tf_el50 : telem Tryd.prog 50 = none := by kernel_rfl
theorem tf_und50 : (Tryd.prog.underlying 50).isSome = true := by kernel_rfl
theorem tf_z50 : tzero Tryd.prog 50 = some (.lit .nilFunc) := by kernel_rfl
theorem tf_zr50 : zrow Tryd.prog 50 1 = some [.lit .nilFunc] := by kernel_rfl
theorem tf_sz51 : tsz Tryd.prog 51 = some 1 := by kernel_rfl
theorem tf_by51 : tbytes Tryd.prog 51 = some 8 := by kernel_rfl
theorem tf_agg51 : tagg Tryd.prog 51 = some false := by kernel_rfl
theorem tf_el51 : telem Tryd.prog 51 = none := by kernel_rfl
theorem tf_und51 : (Tryd.prog.underlying 51).isSome = true := by kernel_rfl
theorem tf_z51 : tzero Tryd.prog 51 = some (.lit .nilFunc) := by kernel_rfl
theorem tf_zr51 : zrow Tryd.prog 51 1 = some [.lit .nilFunc] := by kernel_rfl
theorem tf_sz52 : tsz Tryd.prog 52 = some 1 := by kernel_rfl
theorem tf_by52 : tbytes Tryd.prog 52 = some 8 := by kernel_rfl
theorem tf_agg52 : tagg Tryd.prog 52 = some false := by kernel_rfl
theorem tf_el52 : telem Tryd.prog 52 = none := by kernel_rfl
theorem tf_und52 : (Tryd.prog.underlying 52).isSome = true := by kernel_rfl
theorem tf_z52 : tzero Tryd.prog 52 = some (.lit .nilFunc) := by kernel_rfl
theorem tf_zr52 : zrow Tryd.prog 52 1 = some [.lit .nilFunc] := by kernel_rfl
theorem tf_sz53 : tsz Tryd.prog 53 = some 256 := by kernel_rfl
theorem tf_by53 : tbytes Tryd.prog 53 = some 256 := by kernel_rfl
theorem tf_agg53 : tagg Tryd.prog 53 = some true := by kernel_rfl
theorem tf_el53 : telem Tryd.prog 53 = none := by kernel_rfl
theorem tf_arr53 : tarr Tryd.prog 53 = some (256, 5) := by kernel_rfl
theorem tf_und53 : (Tryd.prog.underlying 53).isSome = true := by kernel_rfl
theorem tf_pl53 : tplaces Tryd.prog 53 = none := by kernel_rfl
theorem tf_sz54 : tsz Tryd.prog 54 = some 2 := by kernel_rfl
theorem tf_by54 : tbytes Tryd.prog 54 = some 2 := by kernel_rfl
theorem tf_agg54 : tagg Tryd.prog 54 = some true := by kernel_rfl
theorem tf_el54 : telem Tryd.prog 54 = none := by kernel_rfl
theorem tf_und54 : (Tryd.prog.underlying 54).isSome = true := by kernel_rfl
theorem tf_z54 : tzero Tryd.prog 54 = some (.agg [.int .u8 0, .int .u8 0]) := by kernel_rfl
theorem tf_pl54 : tplaces Tryd.prog 54 = some [(0, 1), (1, 1)] := by kernel_rfl
theorem tf_f54x0 : tfld Tryd.prog 54 0 = some (0, 5) := by kernel_rfl
theorem tf_f54x1 : tfld Tryd.prog 54 1 = some (1, 5) := by kernel_rfl
theorem tf_eq54 : flatEq Tryd.prog 54 = some [3, 3] := by kernel_rfl
theorem tf_zr54 : zrow Tryd.prog 54 2 = some [.int .u8 0, .int .u8 0] := by kernel_rfl
theorem tf_sz55 : tsz Tryd.prog 55 = some 2 := by kernel_rfl
theorem tf_by55 : tbytes Tryd.prog 55 = some 2 := by kernel_rfl
theorem tf_agg55 : tagg Tryd.prog 55 = some true := by kernel_rfl
theorem tf_el55 : telem Tryd.prog 55 = none := by kernel_rfl
theorem tf_und55 : (Tryd.prog.underlying 55).isSome = true := by kernel_rfl
theorem tf_z55 : tzero Tryd.prog 55 = some (.agg [.int .u8 0, .int .u8 0]) := by kernel_rfl
theorem tf_pl55 : tplaces Tryd.prog 55 = some [(0, 1), (1, 1)] := by kernel_rfl
theorem tf_f55x0 : tfld Tryd.prog 55 0 = some (0, 5) := by kernel_rfl
theorem tf_f55x1 : tfld Tryd.prog 55 1 = some (1, 5) := by kernel_rfl
theorem tf_eq55 : flatEq Tryd.prog 55 = some [3, 3] := by kernel_rfl
theorem tf_zr55 : zrow Tryd.prog 55 2 = some [.int .u8 0, .int .u8 0] := by kernel_rfl
theorem tf_sz56 : tsz Tryd.prog 56 = some 32 := by kernel_rfl
theorem tf_by56 : tbytes Tryd.prog 56 = some 32 := by kernel_rfl
theorem tf_agg56 : tagg Tryd.prog 56 = some true := by kernel_rfl
theorem tf_el56 : telem Tryd.prog 56 = none := by kernel_rfl
theorem tf_arr56 : tarr Tryd.prog 56 = some (16, 55) := by kernel_rfl
theorem tf_und56 : (Tryd.prog.underlying 56).isSome = true := by kernel_rfl
theorem tf_z56 : tzero Tryd.prog 56 = some (.agg [.int .u8 0, .int .u8 0, .int .u8 0, .int .u8 0, .int .u8 0, .int .u8 0, .int .u8 0, .int .u8 0, .int .u8 0, .int .u8 0, .int .u8 0, .int .u8 0, .int .u8 0, .int .u8 0, .int .u8 0, .int .u8 0, .int .u8 0, .int .u8 0, .int .u8 0, .int .u8 0, .int .u8 0, .int .u8 0, .int .u8 0, .int .u8 0, .int .u8 0, .int .u8 0, .int .u8 0, .int .u8 0, .int .u8 0, .int .u8 0, .int .u8 0, .int .u8 0]) := by kernel_rfl
theorem tf_pl56 : tplaces Tryd.prog 56 = none := by kernel_rfl
theorem tf_zr56 : zrow Tryd.prog 56 32 = some [.int .u8 0, .int .u8 0, .int .u8 0, .int .u8 0, .int .u8 0, .int .u8 0, .int .u8 0, .int .u8 0, .int .u8 0, .int .u8 0, .int .u8 0, .int .u8 0, .int .u8 0, .int .u8 0, .int .u8 0, .int .u8 0, .int .u8 0, .int .u8 0, .int .u8 0, .int .u8 0, .int .u8 0, .int .u8 0, .int .u8 0, .int .u8 0, .int .u8 0, .int .u8 0, .int .u8 0, .int .u8 0, .int .u8 0, .int .u8 0, .int .u8 0, .int .u8 0] := by kernel_rfl
theorem tf_sz57 : tsz Tryd.prog 57 = some 1 := by kernel_rfl
theorem tf_by57 : tbytes Tryd.prog 57 = some 8 := by kernel_rfl
theorem tf_agg57 : tagg Tryd.prog 57 = some false := by kernel_rfl
theorem tf_el57 : telem Tryd.prog 57 = none := by kernel_rfl
theorem tf_und57 : (Tryd.prog.underlying 57).isSome = true := by kernel_rfl
theorem tf_z57 : tzero Tryd.prog 57 = some (.lit .nilFunc) := by kernel_rfl
theorem tf_zr57 : zrow Tryd.prog 57 1 = some [.lit .nilFunc] := by kernel_rfl
theorem tf_sz58 : tsz Tryd.prog 58 = some 1 := by kernel_rfl
theorem tf_by58 : tbytes Tryd.prog 58 = some 24 := by kernel_rfl
theorem tf_agg58 : tagg Tryd.prog 58 = some false := by kernel_rfl
theorem tf_el58 : telem Tryd.prog 58 = some 22 := by kernel_rfl
theorem tf_und58 : (Tryd.prog.underlying 58).isSome = true := by kernel_rfl
theorem tf_z58 : tzero Tryd.prog 58 = some (.nils) := by kernel_rfl
theorem tf_zr58 : zrow Tryd.prog 58 1 = some [.nils] := by kernel_rfl
theorem tf_sz59 : tsz Tryd.prog 59 = some 4 := by kernel_rfl
theorem tf_by59 : tbytes Tryd.prog 59 = some 32 := by kernel_rfl
theorem tf_agg59 : tagg Tryd.prog 59 = some true := by kernel_rfl
theorem tf_el59 : telem Tryd.prog 59 = none := by kernel_rfl
theorem tf_und59 : (Tryd.prog.underlying 59).isSome = true := by kernel_rfl
theorem tf_z59 : tzero Tryd.prog 59 = some (.agg [.int .u64 0, .int .u64 0, .int .u64 0, .int .u64 0]) := by kernel_rfl
theorem tf_pl59 : tplaces Tryd.prog 59 = some [(0, 1), (1, 1), (2, 1), (3, 1)] := by kernel_rfl
theorem tf_f59x0 : tfld Tryd.prog 59 0 = some (0, 22) := by kernel_rfl
theorem tf_f59x1 : tfld Tryd.prog 59 1 = some (1, 22) := by kernel_rfl
theorem tf_f59x2 : tfld Tryd.prog 59 2 = some (2, 22) := by kernel_rfl
theorem tf_f59x3 : tfld Tryd.prog 59 3 = some (3, 22) := by kernel_rfl
theorem tf_eq59 : flatEq Tryd.prog 59 = some [3, 3, 3, 3] := by kernel_rfl
theorem tf_zr59 : zrow Tryd.prog 59 4 = some [.int .u64 0, .int .u64 0, .int .u64 0, .int .u64 0] := by kernel_rfl
theorem tf_sz60 : tsz Tryd.prog 60 = some 4 := by kernel_rfl
theorem tf_by60 : tbytes Tryd.prog 60 = some 32 := by kernel_rfl
theorem tf_agg60 : tagg Tryd.prog 60 = some true := by kernel_rfl
theorem tf_el60 : telem Tryd.prog 60 = none := by kernel_rfl
theorem tf_und60 : (Tryd.prog.underlying 60).isSome = true := by kernel_rfl
theorem tf_z60 : tzero Tryd.prog 60 = some (.agg [.int .u64 0, .int .u64 0, .int .u64 0, .int .u64 0]) := by kernel_rfl
theorem tf_pl60 : tplaces Tryd.prog 60 = some [(0, 1), (1, 1), (2, 1), (3, 1)] := by kernel_rfl
theorem tf_f60x0 : tfld Tryd.prog 60 0 = some (0, 22) := by kernel_rfl
theorem tf_f60x1 : tfld Tryd.prog 60 1 = some (1, 22) := by kernel_rfl
theorem tf_f60x2 : tfld Tryd.prog 60 2 = some (2, 22) := by kernel_rfl
theorem tf_f60x3 : tfld Tryd.prog 60 3 = some (3, 22) := by kernel_rfl
theorem tf_eq60 : flatEq Tryd.prog 60 = some [3, 3, 3, 3] := by kernel_rfl
theorem tf_zr60 : zrow Tryd.prog 60 4 = some [.int .u64 0, .int .u64 0, .int .u64 0, .int .u64 0] := by kernel_rfl
theorem tf_sz61 : tsz Tryd.prog 61 = some 1 := by kernel_rfl
theorem tf_by61 : tbytes Tryd.prog 61 = some 8 := by kernel_rfl
theorem tf_agg61 : tagg Tryd.prog 61 = some false := by kernel_rfl
theorem tf_el61 : telem Tryd.prog 61 = none := by kernel_rfl
theorem tf_und61 : (Tryd.prog.underlying 61).isSome = true := by kernel_rfl
theorem tf_z61 : tzero Tryd.prog 61 = some (.lit .nilFunc) := by kernel_rfl
theorem tf_zr61 : zrow Tryd.prog 61 1 = some [.lit .nilFunc] := by kernel_rfl
theorem tf_sz62 : tsz Tryd.prog 62 = some 1 := by kernel_rfl
theorem tf_by62 : tbytes Tryd.prog 62 = some 8 := by kernel_rfl
theorem tf_agg62 : tagg Tryd.prog 62 = some false := by kernel_rfl
theorem tf_el62 : telem Tryd.prog 62 = none := by kernel_rfl
theorem tf_und62 : (Tryd.prog.underlying 62).isSome = true := by kernel_rfl
theorem tf_z62 : tzero Tryd.prog 62 = some (.lit .nilFunc) := by kernel_rfl
theorem tf_zr62 : zrow Tryd.prog 62 1 = some [.lit .nilFunc] := by kernel_rfl
theorem tf_sz63 : tsz Tryd.prog 63 = some 1 := by kernel_rfl
theorem tf_by63 : tbytes Tryd.prog 63 = some 8 := by kernel_rfl
theorem tf_agg63 : tagg Tryd.prog 63 = some false := by kernel_rfl
theorem tf_el63 : telem Tryd.prog 63 = none := by kernel_rfl
theorem tf_und63 : (Tryd.prog.underlying 63).isSome = true := by kernel_rfl
theorem tf_z63 : tzero Tryd.prog 63 = some (.lit .nilFunc) := by kernel_rfl
theorem tf_zr63 : zrow Tryd.prog 63 1 = some [.lit .nilFunc] := by kernel_rfl
theorem tf_sz64 : tsz Tryd.prog 64 = some 4 := by kernel_rfl
theorem tf_by64 : tbytes Tryd.prog 64 = some 32 := by kernel_rfl
theorem tf_agg64 : tagg Tryd.prog 64 = some true := by kernel_rfl
theorem tf_el64 : telem Tryd.prog 64 = none := by kernel_rfl
theorem tf_arr64 : tarr Tryd.prog 64 = some (4, 22) := by kernel_rfl
theorem tf_und64 : (Tryd.prog.underlying 64).isSome = true := by kernel_rfl
theorem tf_z64 : tzero Tryd.prog 64 = some (.agg [.int .u64 0, .int .u64 0, .int .u64 0, .int .u64 0]) := by kernel_rfl
theorem tf_pl64 : tplaces Tryd.prog 64 = none := by kernel_rfl
theorem tf_zr64 : zrow Tryd.prog 64 4 = some [.int .u64 0, .int .u64 0, .int .u64 0, .int .u64 0] := by kernel_rfl
theorem tf_sz65 : tsz Tryd.prog 65 = some 1 := by kernel_rfl
theorem tf_by65 : tbytes Tryd.prog 65 = some 8 := by kernel_rfl
theorem tf_agg65 : tagg Tryd.prog 65 = some false := by kernel_rfl
theorem tf_el65 : telem Tryd.prog 65 = none := by kernel_rfl
theorem tf_und65 : (Tryd.prog.underlying 65).isSome = true := by kernel_rfl
theorem tf_z65 : tzero Tryd.prog 65 = some (.lit .nilFunc) := by kernel_rfl
theorem tf_zr65 : zrow Tryd.prog 65 1 = some [.lit .nilFunc] := by kernel_rfl
theorem tf_sz66 : tsz Tryd.prog 66 = some 1 := by kernel_rfl
theorem tf_by66 : tbytes Tryd.prog 66 = some 8 := by kernel_rfl
theorem tf_agg66 : tagg Tryd.prog 66 = some false := by kernel_rfl
theorem tf_el66 : telem Tryd.prog 66 = none := by kernel_rfl
theorem tf_und66 : (Tryd.prog.underlying 66).isSome = true := by kernel_rfl
theorem tf_z66 : tzero Tryd.prog 66 = some (.nilp) := by kernel_rfl
theorem tf_zr66 : zrow Tryd.prog 66 1 = some [.nilp] := by kernel_rfl
theorem tf_sz67 : tsz Tryd.prog 67 = some 1 := by kernel_rfl
theorem tf_by67 : tbytes Tryd.prog 67 = some 8 := by kernel_rfl
theorem tf_agg67 : tagg Tryd.prog 67 = some false := by kernel_rfl
theorem tf_el67 : telem Tryd.prog 67 = none := by kernel_rfl
theorem tf_und67 : (Tryd.prog.underlying 67).isSome = true := by kernel_rfl
theorem tf_z67 : tzero Tryd.prog 67 = some (.lit .nilFunc) := by kernel_rfl
theorem tf_zr67 : zrow Tryd.prog 67 1 = some [.lit .nilFunc] := by kernel_rfl
theorem tf_sz68 : tsz Tryd.prog 68 = some 1 := by kernel_rfl
theorem tf_by68 : tbytes Tryd.prog 68 = some 8 := by kernel_rfl
theorem tf_agg68 : tagg Tryd.prog 68 = some false := by kernel_rfl
theorem tf_el68 : telem Tryd.prog 68 = none := by kernel_rfl
theorem tf_und68 : (Tryd.prog.underlying 68).isSome = true := by kernel_rfl
theorem tf_z68 : tzero Tryd.prog 68 = some (.lit .nilFunc) := by kernel_rfl
theorem tf_zr68 : zrow Tryd.prog 68 1 = some [.lit .nilFunc] := by kernel_rfl
theorem tf_sz69 : tsz Tryd.prog 69 = some 1 := by kernel_rfl
theorem tf_by69 : tbytes Tryd.prog 69 = some 8 := by kernel_rfl
theorem tf_agg69 : tagg Tryd.prog 69 = some false := by kernel_rfl
theorem tf_el69 : telem Tryd.prog 69 = none := by kernel_rfl
theorem tf_und69 : (Tryd.prog.underlying 69).isSome = true := by kernel_rfl
theorem tf_z69 : tzero Tryd.prog 69 = some (.lit .nilFunc) := by kernel_rfl
theorem tf_zr69 : zrow Tryd.prog 69 1 = some [.lit .nilFunc] := by kernel_rfl
theorem tf_sz75 : tsz Tryd.prog 75 = some 1 := by kernel_rfl
theorem tf_by75 : tbytes Tryd.prog 75 = some 8 := by kernel_rfl
theorem tf_agg75 : tagg Tryd.prog 75 = some false := by kernel_rfl
theorem tf_el75 : telem Tryd.prog 75 = none := by kernel_rfl
theorem tf_und75 : (Tryd.prog.underlying 75).isSome = true := by kernel_rfl
theorem tf_z75 : tzero Tryd.prog 75 = some (.lit .nilFunc) := by kernel_rfl
theorem tf_zr75 : zrow Tryd.prog 75 1 = some [.lit .nilFunc] := by kernel_rfl
theorem tf_sz76 : tsz Tryd.prog 76 = some 1 := by kernel_rfl
theorem tf_by76 : tbytes Tryd.prog 76 = some 4 := by kernel_rfl
theorem tf_agg76 : tagg Tryd.prog 76 = some false := by kernel_rfl
theorem tf_int76 : tint Tryd.prog 76 = some .u32 := by kernel_rfl
theorem tf_el76 : telem Tryd.prog 76 = none := by kernel_rfl
theorem tf_und76 : (Tryd.prog.underlying 76).isSome = true := by kernel_rfl
theorem tf_z76 : tzero Tryd.prog 76 = some (.int .u32 0) := by kernel_rfl
theorem tf_zr76 : zrow Tryd.prog 76 1 = some [.int .u32 0] := by kernel_rfl
theorem tf_sz80 : tsz Tryd.prog 80 = some 1 := by kernel_rfl
theorem tf_by80 : tbytes Tryd.prog 80 = some 8 := by kernel_rfl
theorem tf_agg80 : tagg Tryd.prog 80 = some false := by kernel_rfl
theorem tf_el80 : telem Tryd.prog 80 = none := by kernel_rfl
theorem tf_und80 : (Tryd.prog.underlying 80).isSome = true := by kernel_rfl
theorem tf_z80 : tzero Tryd.prog 80 = some (.nilp) := by kernel_rfl
theorem tf_zr80 : zrow Tryd.prog 80 1 = some [.nilp] := by kernel_rfl
end Go.Proofs.YtlbafgkhnhkanaaDoor
