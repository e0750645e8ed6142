/- Facts about the program's types. No conditions. Printed by gen_types.py. -/
import Derived.Test.YtdimikmgkdcglaaC0
import Derived.Test.YtdimikmgkdcglaaProg
namespace Go.Proofs.Ytdimikmgkdcglaa
open Go.RowKit

@[simp] theorem mixed : Try.prog.follows .mixedOrders = true := by kernel_rfl
@[simp] theorem tagg_1 : tagg Try.prog 1 = some false := by kernel_rfl
@[simp] theorem tsz_1 : tsz Try.prog 1 = some 1 := by kernel_rfl
@[simp] theorem tbytes_1 : tbytes Try.prog 1 = some 8 := by kernel_rfl
@[simp] theorem zcells_1 : zcells Try.prog 1 = some [.sc (.nilFunc)] := by kernel_rfl
@[simp] theorem tzero_1 : tzero Try.prog 1 = some (.nilFunc) := by kernel_rfl
@[simp] theorem azero_1 : azero Try.prog 1 = some (.sc (.nilFunc)) := by kernel_rfl
@[simp] theorem tagg_2 : tagg Try.prog 2 = some false := by kernel_rfl
@[simp] theorem tsz_2 : tsz Try.prog 2 = some 1 := by kernel_rfl
@[simp] theorem tbytes_2 : tbytes Try.prog 2 = some 8 := by kernel_rfl
@[simp] theorem tint_2 : tint Try.prog 2 = some .i64 := by kernel_rfl
@[simp] theorem hasU_2 : hasU Try.prog 2 = true := by kernel_rfl
@[simp] theorem zcells_2 : zcells Try.prog 2 = some [.sc (.int .i64 0)] := by kernel_rfl
@[simp] theorem tzero_2 : tzero Try.prog 2 = some (.int .i64 0) := by kernel_rfl
@[simp] theorem azero_2 : azero Try.prog 2 = some (.sc (.int .i64 0)) := by kernel_rfl
@[simp] theorem tagg_3 : tagg Try.prog 3 = some false := by kernel_rfl
@[simp] theorem tsz_3 : tsz Try.prog 3 = some 1 := by kernel_rfl
@[simp] theorem tbytes_3 : tbytes Try.prog 3 = some 8 := by kernel_rfl
@[simp] theorem tint_3 : tint Try.prog 3 = some .i64 := by kernel_rfl
@[simp] theorem hasU_3 : hasU Try.prog 3 = true := by kernel_rfl
@[simp] theorem zcells_3 : zcells Try.prog 3 = some [.sc (.int .i64 0)] := by kernel_rfl
@[simp] theorem tzero_3 : tzero Try.prog 3 = some (.int .i64 0) := by kernel_rfl
@[simp] theorem azero_3 : azero Try.prog 3 = some (.sc (.int .i64 0)) := by kernel_rfl
@[simp] theorem tagg_4 : tagg Try.prog 4 = some false := by kernel_rfl
@[simp] theorem tsz_4 : tsz Try.prog 4 = some 1 := by kernel_rfl
@[simp] theorem tbytes_4 : tbytes Try.prog 4 = some 1 := by kernel_rfl
@[simp] theorem hasU_4 : hasU Try.prog 4 = true := by kernel_rfl
@[simp] theorem zcells_4 : zcells Try.prog 4 = some [.sc (.bool false)] := by kernel_rfl
@[simp] theorem tzero_4 : tzero Try.prog 4 = some (.bool false) := by kernel_rfl
@[simp] theorem azero_4 : azero Try.prog 4 = some (.sc (.bool false)) := by kernel_rfl
@[simp] theorem tub_4 : Try.prog.underlying 4 = some .bool := by kernel_rfl
@[simp] theorem tagg_5 : tagg Try.prog 5 = some false := by kernel_rfl
@[simp] theorem tsz_5 : tsz Try.prog 5 = some 1 := by kernel_rfl
@[simp] theorem tbytes_5 : tbytes Try.prog 5 = some 1 := by kernel_rfl
@[simp] theorem tint_5 : tint Try.prog 5 = some .u8 := by kernel_rfl
@[simp] theorem hasU_5 : hasU Try.prog 5 = true := by kernel_rfl
@[simp] theorem zcells_5 : zcells Try.prog 5 = some [.sc (.int .u8 0)] := by kernel_rfl
@[simp] theorem tzero_5 : tzero Try.prog 5 = some (.int .u8 0) := by kernel_rfl
@[simp] theorem azero_5 : azero Try.prog 5 = some (.sc (.int .u8 0)) := by kernel_rfl
@[simp] theorem tagg_12 : tagg Try.prog 12 = some false := by kernel_rfl
@[simp] theorem tsz_12 : tsz Try.prog 12 = some 1 := by kernel_rfl
@[simp] theorem tbytes_12 : tbytes Try.prog 12 = some 8 := by kernel_rfl
@[simp] theorem tint_12 : tint Try.prog 12 = some .u64 := by kernel_rfl
@[simp] theorem hasU_12 : hasU Try.prog 12 = true := by kernel_rfl
@[simp] theorem zcells_12 : zcells Try.prog 12 = some [.sc (.int .u64 0)] := by kernel_rfl
@[simp] theorem tzero_12 : tzero Try.prog 12 = some (.int .u64 0) := by kernel_rfl
@[simp] theorem azero_12 : azero Try.prog 12 = some (.sc (.int .u64 0)) := by kernel_rfl
@[simp] theorem tagg_17 : tagg Try.prog 17 = some false := by kernel_rfl
@[simp] theorem tsz_17 : tsz Try.prog 17 = some 1 := by kernel_rfl
@[simp] theorem tbytes_17 : tbytes Try.prog 17 = some 8 := by kernel_rfl
@[simp] theorem zcells_17 : zcells Try.prog 17 = some [.sc (.pointer none)] := by kernel_rfl
@[simp] theorem tzero_17 : tzero Try.prog 17 = some (.pointer none) := by kernel_rfl
@[simp] theorem azero_17 : azero Try.prog 17 = some (.sc (.pointer none)) := by kernel_rfl
@[simp] theorem tagg_21 : tagg Try.prog 21 = some false := by kernel_rfl
@[simp] theorem tsz_21 : tsz Try.prog 21 = some 1 := by kernel_rfl
@[simp] theorem tbytes_21 : tbytes Try.prog 21 = some 4 := by kernel_rfl
@[simp] theorem tint_21 : tint Try.prog 21 = some .i32 := by kernel_rfl
@[simp] theorem hasU_21 : hasU Try.prog 21 = true := by kernel_rfl
@[simp] theorem zcells_21 : zcells Try.prog 21 = some [.sc (.int .i32 0)] := by kernel_rfl
@[simp] theorem tzero_21 : tzero Try.prog 21 = some (.int .i32 0) := by kernel_rfl
@[simp] theorem azero_21 : azero Try.prog 21 = some (.sc (.int .i32 0)) := by kernel_rfl
@[simp] theorem tagg_22 : tagg Try.prog 22 = some false := by kernel_rfl
@[simp] theorem tsz_22 : tsz Try.prog 22 = some 1 := by kernel_rfl
@[simp] theorem tbytes_22 : tbytes Try.prog 22 = some 8 := by kernel_rfl
@[simp] theorem zcells_22 : zcells Try.prog 22 = some [.sc (.nilFunc)] := by kernel_rfl
@[simp] theorem tzero_22 : tzero Try.prog 22 = some (.nilFunc) := by kernel_rfl
@[simp] theorem azero_22 : azero Try.prog 22 = some (.sc (.nilFunc)) := by kernel_rfl
@[simp] theorem tagg_23 : tagg Try.prog 23 = some false := by kernel_rfl
@[simp] theorem tsz_23 : tsz Try.prog 23 = some 1 := by kernel_rfl
@[simp] theorem tbytes_23 : tbytes Try.prog 23 = some 24 := by kernel_rfl
@[simp] theorem tslice_23 : tslice Try.prog 23 = some 37 := by kernel_rfl
@[simp] theorem zcells_23 : zcells Try.prog 23 = some [.sc (.slice none 0 0)] := by kernel_rfl
@[simp] theorem tzero_23 : tzero Try.prog 23 = some (.slice none 0 0) := by kernel_rfl
@[simp] theorem azero_23 : azero Try.prog 23 = some (.sc (.slice none 0 0)) := by kernel_rfl
@[simp] theorem tagg_24 : tagg Try.prog 24 = some false := by kernel_rfl
@[simp] theorem tsz_24 : tsz Try.prog 24 = some 1 := by kernel_rfl
@[simp] theorem tbytes_24 : tbytes Try.prog 24 = some 24 := by kernel_rfl
@[simp] theorem tslice_24 : tslice Try.prog 24 = some 3 := by kernel_rfl
@[simp] theorem zcells_24 : zcells Try.prog 24 = some [.sc (.slice none 0 0)] := by kernel_rfl
@[simp] theorem tzero_24 : tzero Try.prog 24 = some (.slice none 0 0) := by kernel_rfl
@[simp] theorem azero_24 : azero Try.prog 24 = some (.sc (.slice none 0 0)) := by kernel_rfl
@[simp] theorem tagg_25 : tagg Try.prog 25 = some true := by kernel_rfl
@[simp] theorem tsz_25 : tsz Try.prog 25 = some 2 := by kernel_rfl
@[simp] theorem tbytes_25 : tbytes Try.prog 25 = some 16 := by kernel_rfl
@[simp] theorem tfield_25_0 : tfield Try.prog 25 0 = some 0 := by kernel_rfl
@[simp] theorem tfld_25_0 : tfld Try.prog 25 0 = some (0, false) := by kernel_rfl
@[simp] theorem tfield_25_1 : tfield Try.prog 25 1 = some 1 := by kernel_rfl
@[simp] theorem tfld_25_1 : tfld Try.prog 25 1 = some (1, false) := by kernel_rfl
@[simp] theorem tplaces_25 : tplaces Try.prog 25 = some fun i => [(0, 1), (1, 1)][i]? := by kernel_rfl
@[simp] theorem zcells_25 : zcells Try.prog 25 = some [.sc (.int .i64 0), .sc (.int .i64 0)] := by kernel_rfl
@[simp] theorem tzero_25 : tzero Try.prog 25 = some (.agg #[.int .i64 0, .int .i64 0]) := by kernel_rfl
@[simp] theorem azero_25 : azero Try.prog 25 = some (.ag [.sc (.int .i64 0), .sc (.int .i64 0)]) := by kernel_rfl
@[simp] theorem tagg_26 : tagg Try.prog 26 = some true := by kernel_rfl
@[simp] theorem tsz_26 : tsz Try.prog 26 = some 2 := by kernel_rfl
@[simp] theorem tbytes_26 : tbytes Try.prog 26 = some 16 := by kernel_rfl
@[simp] theorem tfield_26_0 : tfield Try.prog 26 0 = some 0 := by kernel_rfl
@[simp] theorem tfld_26_0 : tfld Try.prog 26 0 = some (0, false) := by kernel_rfl
@[simp] theorem tfield_26_1 : tfield Try.prog 26 1 = some 1 := by kernel_rfl
@[simp] theorem tfld_26_1 : tfld Try.prog 26 1 = some (1, false) := by kernel_rfl
@[simp] theorem tplaces_26 : tplaces Try.prog 26 = some fun i => [(0, 1), (1, 1)][i]? := by kernel_rfl
@[simp] theorem zcells_26 : zcells Try.prog 26 = some [.sc (.int .i64 0), .sc (.int .i64 0)] := by kernel_rfl
@[simp] theorem tzero_26 : tzero Try.prog 26 = some (.agg #[.int .i64 0, .int .i64 0]) := by kernel_rfl
@[simp] theorem azero_26 : azero Try.prog 26 = some (.ag [.sc (.int .i64 0), .sc (.int .i64 0)]) := by kernel_rfl
@[simp] theorem tagg_27 : tagg Try.prog 27 = some true := by kernel_rfl
@[simp] theorem tsz_27 : tsz Try.prog 27 = some 4 := by kernel_rfl
@[simp] theorem tbytes_27 : tbytes Try.prog 27 = some 32 := by kernel_rfl
@[simp] theorem tarray_27 : tarray Try.prog 27 = some (4, 2) := by kernel_rfl
@[simp] theorem tplaces_27 : tplaces Try.prog 27 = some fun i => some (i * 1, 1) := by kernel_rfl
@[simp] theorem zcells_27 : zcells Try.prog 27 = some [.sc (.int .i64 0), .sc (.int .i64 0), .sc (.int .i64 0), .sc (.int .i64 0)] := by kernel_rfl
@[simp] theorem tzero_27 : tzero Try.prog 27 = some (.agg #[.int .i64 0, .int .i64 0, .int .i64 0, .int .i64 0]) := by kernel_rfl
@[simp] theorem azero_27 : azero Try.prog 27 = some (.ag [.sc (.int .i64 0), .sc (.int .i64 0), .sc (.int .i64 0), .sc (.int .i64 0)]) := by kernel_rfl
@[simp] theorem tagg_28 : tagg Try.prog 28 = some false := by kernel_rfl
@[simp] theorem tsz_28 : tsz Try.prog 28 = some 1 := by kernel_rfl
@[simp] theorem tbytes_28 : tbytes Try.prog 28 = some 4 := by kernel_rfl
@[simp] theorem tint_28 : tint Try.prog 28 = some .u32 := by kernel_rfl
@[simp] theorem hasU_28 : hasU Try.prog 28 = true := by kernel_rfl
@[simp] theorem zcells_28 : zcells Try.prog 28 = some [.sc (.int .u32 0)] := by kernel_rfl
@[simp] theorem tzero_28 : tzero Try.prog 28 = some (.int .u32 0) := by kernel_rfl
@[simp] theorem azero_28 : azero Try.prog 28 = some (.sc (.int .u32 0)) := by kernel_rfl
@[simp] theorem tagg_29 : tagg Try.prog 29 = some true := by kernel_rfl
@[simp] theorem tsz_29 : tsz Try.prog 29 = some 3 := by kernel_rfl
@[simp] theorem tbytes_29 : tbytes Try.prog 29 = some 24 := by kernel_rfl
@[simp] theorem tfield_29_0 : tfield Try.prog 29 0 = some 0 := by kernel_rfl
@[simp] theorem tfld_29_0 : tfld Try.prog 29 0 = some (0, false) := by kernel_rfl
@[simp] theorem tfield_29_1 : tfield Try.prog 29 1 = some 1 := by kernel_rfl
@[simp] theorem tfld_29_1 : tfld Try.prog 29 1 = some (1, false) := by kernel_rfl
@[simp] theorem tfield_29_2 : tfield Try.prog 29 2 = some 2 := by kernel_rfl
@[simp] theorem tfld_29_2 : tfld Try.prog 29 2 = some (2, false) := by kernel_rfl
@[simp] theorem tplaces_29 : tplaces Try.prog 29 = some fun i => [(0, 1), (1, 1), (2, 1)][i]? := by kernel_rfl
@[simp] theorem zcells_29 : zcells Try.prog 29 = some [.sc (.int .i64 0), .sc (.int .i64 0), .sc (.int .u32 0)] := by kernel_rfl
@[simp] theorem tzero_29 : tzero Try.prog 29 = some (.agg #[.int .i64 0, .int .i64 0, .int .u32 0]) := by kernel_rfl
@[simp] theorem azero_29 : azero Try.prog 29 = some (.ag [.sc (.int .i64 0), .sc (.int .i64 0), .sc (.int .u32 0)]) := by kernel_rfl
@[simp] theorem tagg_30 : tagg Try.prog 30 = some true := by kernel_rfl
@[simp] theorem tsz_30 : tsz Try.prog 30 = some 3 := by kernel_rfl
@[simp] theorem tbytes_30 : tbytes Try.prog 30 = some 24 := by kernel_rfl
@[simp] theorem tfield_30_0 : tfield Try.prog 30 0 = some 0 := by kernel_rfl
@[simp] theorem tfld_30_0 : tfld Try.prog 30 0 = some (0, false) := by kernel_rfl
@[simp] theorem tfield_30_1 : tfield Try.prog 30 1 = some 1 := by kernel_rfl
@[simp] theorem tfld_30_1 : tfld Try.prog 30 1 = some (1, false) := by kernel_rfl
@[simp] theorem tfield_30_2 : tfield Try.prog 30 2 = some 2 := by kernel_rfl
@[simp] theorem tfld_30_2 : tfld Try.prog 30 2 = some (2, false) := by kernel_rfl
@[simp] theorem tplaces_30 : tplaces Try.prog 30 = some fun i => [(0, 1), (1, 1), (2, 1)][i]? := by kernel_rfl
@[simp] theorem zcells_30 : zcells Try.prog 30 = some [.sc (.int .i64 0), .sc (.int .i64 0), .sc (.int .u32 0)] := by kernel_rfl
@[simp] theorem tzero_30 : tzero Try.prog 30 = some (.agg #[.int .i64 0, .int .i64 0, .int .u32 0]) := by kernel_rfl
@[simp] theorem azero_30 : azero Try.prog 30 = some (.ag [.sc (.int .i64 0), .sc (.int .i64 0), .sc (.int .u32 0)]) := by kernel_rfl
@[simp] theorem tagg_31 : tagg Try.prog 31 = some true := by kernel_rfl
@[simp] theorem tsz_31 : tsz Try.prog 31 = some 12 := by kernel_rfl
@[simp] theorem tbytes_31 : tbytes Try.prog 31 = some 96 := by kernel_rfl
@[simp] theorem tarray_31 : tarray Try.prog 31 = some (4, 30) := by kernel_rfl
@[simp] theorem tplaces_31 : tplaces Try.prog 31 = some fun i => some (i * 3, 3) := by kernel_rfl
@[simp] theorem zcells_31 : zcells Try.prog 31 = some [.sc (.int .i64 0), .sc (.int .i64 0), .sc (.int .u32 0), .sc (.int .i64 0), .sc (.int .i64 0), .sc (.int .u32 0), .sc (.int .i64 0), .sc (.int .i64 0), .sc (.int .u32 0), .sc (.int .i64 0), .sc (.int .i64 0), .sc (.int .u32 0)] := by kernel_rfl
@[simp] theorem tzero_31 : tzero Try.prog 31 = some (.agg #[.int .i64 0, .int .i64 0, .int .u32 0, .int .i64 0, .int .i64 0, .int .u32 0, .int .i64 0, .int .i64 0, .int .u32 0, .int .i64 0, .int .i64 0, .int .u32 0]) := by kernel_rfl
@[simp] theorem azero_31 : azero Try.prog 31 = some (.ag [.sc (.int .i64 0), .sc (.int .i64 0), .sc (.int .u32 0), .sc (.int .i64 0), .sc (.int .i64 0), .sc (.int .u32 0), .sc (.int .i64 0), .sc (.int .i64 0), .sc (.int .u32 0), .sc (.int .i64 0), .sc (.int .i64 0), .sc (.int .u32 0)]) := by kernel_rfl
@[simp] theorem tagg_32 : tagg Try.prog 32 = some true := by kernel_rfl
@[simp] theorem tsz_32 : tsz Try.prog 32 = some 2 := by kernel_rfl
@[simp] theorem tbytes_32 : tbytes Try.prog 32 = some 16 := by kernel_rfl
@[simp] theorem tarray_32 : tarray Try.prog 32 = some (2, 2) := by kernel_rfl
@[simp] theorem tplaces_32 : tplaces Try.prog 32 = some fun i => some (i * 1, 1) := by kernel_rfl
@[simp] theorem zcells_32 : zcells Try.prog 32 = some [.sc (.int .i64 0), .sc (.int .i64 0)] := by kernel_rfl
@[simp] theorem tzero_32 : tzero Try.prog 32 = some (.agg #[.int .i64 0, .int .i64 0]) := by kernel_rfl
@[simp] theorem azero_32 : azero Try.prog 32 = some (.ag [.sc (.int .i64 0), .sc (.int .i64 0)]) := by kernel_rfl
@[simp] theorem tagg_33 : tagg Try.prog 33 = some true := by kernel_rfl
@[simp] theorem tsz_33 : tsz Try.prog 33 = some 29 := by kernel_rfl
@[simp] theorem tbytes_33 : tbytes Try.prog 33 = some 216 := by kernel_rfl
@[simp] theorem tfield_33_0 : tfield Try.prog 33 0 = some 0 := by kernel_rfl
@[simp] theorem tfld_33_0 : tfld Try.prog 33 0 = some (0, true) := by kernel_rfl
@[simp] theorem tfield_33_1 : tfield Try.prog 33 1 = some 2 := by kernel_rfl
@[simp] theorem tfld_33_1 : tfld Try.prog 33 1 = some (2, true) := by kernel_rfl
@[simp] theorem tfield_33_2 : tfield Try.prog 33 2 = some 4 := by kernel_rfl
@[simp] theorem tfld_33_2 : tfld Try.prog 33 2 = some (4, true) := by kernel_rfl
@[simp] theorem tfield_33_3 : tfield Try.prog 33 3 = some 8 := by kernel_rfl
@[simp] theorem tfld_33_3 : tfld Try.prog 33 3 = some (8, true) := by kernel_rfl
@[simp] theorem tfield_33_4 : tfield Try.prog 33 4 = some 20 := by kernel_rfl
@[simp] theorem tfld_33_4 : tfld Try.prog 33 4 = some (20, false) := by kernel_rfl
@[simp] theorem tfield_33_5 : tfield Try.prog 33 5 = some 21 := by kernel_rfl
@[simp] theorem tfld_33_5 : tfld Try.prog 33 5 = some (21, false) := by kernel_rfl
@[simp] theorem tfield_33_6 : tfield Try.prog 33 6 = some 22 := by kernel_rfl
@[simp] theorem tfld_33_6 : tfld Try.prog 33 6 = some (22, false) := by kernel_rfl
@[simp] theorem tfield_33_7 : tfield Try.prog 33 7 = some 23 := by kernel_rfl
@[simp] theorem tfld_33_7 : tfld Try.prog 33 7 = some (23, false) := by kernel_rfl
@[simp] theorem tfield_33_8 : tfield Try.prog 33 8 = some 24 := by kernel_rfl
@[simp] theorem tfld_33_8 : tfld Try.prog 33 8 = some (24, false) := by kernel_rfl
@[simp] theorem tfield_33_9 : tfield Try.prog 33 9 = some 25 := by kernel_rfl
@[simp] theorem tfld_33_9 : tfld Try.prog 33 9 = some (25, true) := by kernel_rfl
@[simp] theorem tfield_33_10 : tfield Try.prog 33 10 = some 27 := by kernel_rfl
@[simp] theorem tfld_33_10 : tfld Try.prog 33 10 = some (27, false) := by kernel_rfl
@[simp] theorem tfield_33_11 : tfield Try.prog 33 11 = some 28 := by kernel_rfl
@[simp] theorem tfld_33_11 : tfld Try.prog 33 11 = some (28, false) := by kernel_rfl
@[simp] theorem tplaces_33 : tplaces Try.prog 33 = some fun i => [(0, 2), (2, 2), (4, 4), (8, 12), (20, 1), (21, 1), (22, 1), (23, 1), (24, 1), (25, 2), (27, 1), (28, 1)][i]? := by kernel_rfl
@[simp] theorem zcells_33 : zcells Try.prog 33 = some [.sc (.int .i64 0), .sc (.int .i64 0), .sc (.int .i64 0), .sc (.int .i64 0), .sc (.int .i64 0), .sc (.int .i64 0), .sc (.int .i64 0), .sc (.int .i64 0), .sc (.int .i64 0), .sc (.int .i64 0), .sc (.int .u32 0), .sc (.int .i64 0), .sc (.int .i64 0), .sc (.int .u32 0), .sc (.int .i64 0), .sc (.int .i64 0), .sc (.int .u32 0), .sc (.int .i64 0), .sc (.int .i64 0), .sc (.int .u32 0), .sc (.int .i64 0), .sc (.int .i64 0), .sc (.int .i64 0), .sc (.bool false), .sc (.bool false), .sc (.int .i64 0), .sc (.int .i64 0), .sc (.bool false), .sc (.bool false)] := by kernel_rfl
@[simp] theorem tzero_33 : tzero Try.prog 33 = some (.agg #[.int .i64 0, .int .i64 0, .int .i64 0, .int .i64 0, .int .i64 0, .int .i64 0, .int .i64 0, .int .i64 0, .int .i64 0, .int .i64 0, .int .u32 0, .int .i64 0, .int .i64 0, .int .u32 0, .int .i64 0, .int .i64 0, .int .u32 0, .int .i64 0, .int .i64 0, .int .u32 0, .int .i64 0, .int .i64 0, .int .i64 0, .bool false, .bool false, .int .i64 0, .int .i64 0, .bool false, .bool false]) := by kernel_rfl
@[simp] theorem azero_33 : azero Try.prog 33 = some (.ag [.sc (.int .i64 0), .sc (.int .i64 0), .sc (.int .i64 0), .sc (.int .i64 0), .sc (.int .i64 0), .sc (.int .i64 0), .sc (.int .i64 0), .sc (.int .i64 0), .sc (.int .i64 0), .sc (.int .i64 0), .sc (.int .u32 0), .sc (.int .i64 0), .sc (.int .i64 0), .sc (.int .u32 0), .sc (.int .i64 0), .sc (.int .i64 0), .sc (.int .u32 0), .sc (.int .i64 0), .sc (.int .i64 0), .sc (.int .u32 0), .sc (.int .i64 0), .sc (.int .i64 0), .sc (.int .i64 0), .sc (.bool false), .sc (.bool false), .sc (.int .i64 0), .sc (.int .i64 0), .sc (.bool false), .sc (.bool false)]) := by kernel_rfl
@[simp] theorem tagg_34 : tagg Try.prog 34 = some true := by kernel_rfl
@[simp] theorem tsz_34 : tsz Try.prog 34 = some 29 := by kernel_rfl
@[simp] theorem tbytes_34 : tbytes Try.prog 34 = some 216 := by kernel_rfl
@[simp] theorem tfield_34_0 : tfield Try.prog 34 0 = some 0 := by kernel_rfl
@[simp] theorem tfld_34_0 : tfld Try.prog 34 0 = some (0, true) := by kernel_rfl
@[simp] theorem tfield_34_1 : tfield Try.prog 34 1 = some 2 := by kernel_rfl
@[simp] theorem tfld_34_1 : tfld Try.prog 34 1 = some (2, true) := by kernel_rfl
@[simp] theorem tfield_34_2 : tfield Try.prog 34 2 = some 4 := by kernel_rfl
@[simp] theorem tfld_34_2 : tfld Try.prog 34 2 = some (4, true) := by kernel_rfl
@[simp] theorem tfield_34_3 : tfield Try.prog 34 3 = some 8 := by kernel_rfl
@[simp] theorem tfld_34_3 : tfld Try.prog 34 3 = some (8, true) := by kernel_rfl
@[simp] theorem tfield_34_4 : tfield Try.prog 34 4 = some 20 := by kernel_rfl
@[simp] theorem tfld_34_4 : tfld Try.prog 34 4 = some (20, false) := by kernel_rfl
@[simp] theorem tfield_34_5 : tfield Try.prog 34 5 = some 21 := by kernel_rfl
@[simp] theorem tfld_34_5 : tfld Try.prog 34 5 = some (21, false) := by kernel_rfl
@[simp] theorem tfield_34_6 : tfield Try.prog 34 6 = some 22 := by kernel_rfl
@[simp] theorem tfld_34_6 : tfld Try.prog 34 6 = some (22, false) := by kernel_rfl
@[simp] theorem tfield_34_7 : tfield Try.prog 34 7 = some 23 := by kernel_rfl
@[simp] theorem tfld_34_7 : tfld Try.prog 34 7 = some (23, false) := by kernel_rfl
@[simp] theorem tfield_34_8 : tfield Try.prog 34 8 = some 24 := by kernel_rfl
@[simp] theorem tfld_34_8 : tfld Try.prog 34 8 = some (24, false) := by kernel_rfl
@[simp] theorem tfield_34_9 : tfield Try.prog 34 9 = some 25 := by kernel_rfl
@[simp] theorem tfld_34_9 : tfld Try.prog 34 9 = some (25, true) := by kernel_rfl
@[simp] theorem tfield_34_10 : tfield Try.prog 34 10 = some 27 := by kernel_rfl
@[simp] theorem tfld_34_10 : tfld Try.prog 34 10 = some (27, false) := by kernel_rfl
@[simp] theorem tfield_34_11 : tfield Try.prog 34 11 = some 28 := by kernel_rfl
@[simp] theorem tfld_34_11 : tfld Try.prog 34 11 = some (28, false) := by kernel_rfl
@[simp] theorem tplaces_34 : tplaces Try.prog 34 = some fun i => [(0, 2), (2, 2), (4, 4), (8, 12), (20, 1), (21, 1), (22, 1), (23, 1), (24, 1), (25, 2), (27, 1), (28, 1)][i]? := by kernel_rfl
@[simp] theorem zcells_34 : zcells Try.prog 34 = some [.sc (.int .i64 0), .sc (.int .i64 0), .sc (.int .i64 0), .sc (.int .i64 0), .sc (.int .i64 0), .sc (.int .i64 0), .sc (.int .i64 0), .sc (.int .i64 0), .sc (.int .i64 0), .sc (.int .i64 0), .sc (.int .u32 0), .sc (.int .i64 0), .sc (.int .i64 0), .sc (.int .u32 0), .sc (.int .i64 0), .sc (.int .i64 0), .sc (.int .u32 0), .sc (.int .i64 0), .sc (.int .i64 0), .sc (.int .u32 0), .sc (.int .i64 0), .sc (.int .i64 0), .sc (.int .i64 0), .sc (.bool false), .sc (.bool false), .sc (.int .i64 0), .sc (.int .i64 0), .sc (.bool false), .sc (.bool false)] := by kernel_rfl
@[simp] theorem tzero_34 : tzero Try.prog 34 = some (.agg #[.int .i64 0, .int .i64 0, .int .i64 0, .int .i64 0, .int .i64 0, .int .i64 0, .int .i64 0, .int .i64 0, .int .i64 0, .int .i64 0, .int .u32 0, .int .i64 0, .int .i64 0, .int .u32 0, .int .i64 0, .int .i64 0, .int .u32 0, .int .i64 0, .int .i64 0, .int .u32 0, .int .i64 0, .int .i64 0, .int .i64 0, .bool false, .bool false, .int .i64 0, .int .i64 0, .bool false, .bool false]) := by kernel_rfl
@[simp] theorem azero_34 : azero Try.prog 34 = some (.ag [.sc (.int .i64 0), .sc (.int .i64 0), .sc (.int .i64 0), .sc (.int .i64 0), .sc (.int .i64 0), .sc (.int .i64 0), .sc (.int .i64 0), .sc (.int .i64 0), .sc (.int .i64 0), .sc (.int .i64 0), .sc (.int .u32 0), .sc (.int .i64 0), .sc (.int .i64 0), .sc (.int .u32 0), .sc (.int .i64 0), .sc (.int .i64 0), .sc (.int .u32 0), .sc (.int .i64 0), .sc (.int .i64 0), .sc (.int .u32 0), .sc (.int .i64 0), .sc (.int .i64 0), .sc (.int .i64 0), .sc (.bool false), .sc (.bool false), .sc (.int .i64 0), .sc (.int .i64 0), .sc (.bool false), .sc (.bool false)]) := by kernel_rfl
@[simp] theorem tagg_35 : tagg Try.prog 35 = some false := by kernel_rfl
@[simp] theorem tsz_35 : tsz Try.prog 35 = some 1 := by kernel_rfl
@[simp] theorem tbytes_35 : tbytes Try.prog 35 = some 24 := by kernel_rfl
@[simp] theorem tslice_35 : tslice Try.prog 35 = some 2 := by kernel_rfl
@[simp] theorem zcells_35 : zcells Try.prog 35 = some [.sc (.slice none 0 0)] := by kernel_rfl
@[simp] theorem tzero_35 : tzero Try.prog 35 = some (.slice none 0 0) := by kernel_rfl
@[simp] theorem azero_35 : azero Try.prog 35 = some (.sc (.slice none 0 0)) := by kernel_rfl
@[simp] theorem tagg_36 : tagg Try.prog 36 = some true := by kernel_rfl
@[simp] theorem tsz_36 : tsz Try.prog 36 = some 34 := by kernel_rfl
@[simp] theorem tbytes_36 : tbytes Try.prog 36 = some 288 := by kernel_rfl
@[simp] theorem tfield_36_0 : tfield Try.prog 36 0 = some 0 := by kernel_rfl
@[simp] theorem tfld_36_0 : tfld Try.prog 36 0 = some (0, false) := by kernel_rfl
@[simp] theorem tfield_36_1 : tfield Try.prog 36 1 = some 1 := by kernel_rfl
@[simp] theorem tfld_36_1 : tfld Try.prog 36 1 = some (1, false) := by kernel_rfl
@[simp] theorem tfield_36_2 : tfield Try.prog 36 2 = some 2 := by kernel_rfl
@[simp] theorem tfld_36_2 : tfld Try.prog 36 2 = some (2, true) := by kernel_rfl
@[simp] theorem tfield_36_3 : tfield Try.prog 36 3 = some 31 := by kernel_rfl
@[simp] theorem tfld_36_3 : tfld Try.prog 36 3 = some (31, false) := by kernel_rfl
@[simp] theorem tfield_36_4 : tfield Try.prog 36 4 = some 32 := by kernel_rfl
@[simp] theorem tfld_36_4 : tfld Try.prog 36 4 = some (32, false) := by kernel_rfl
@[simp] theorem tfield_36_5 : tfield Try.prog 36 5 = some 33 := by kernel_rfl
@[simp] theorem tfld_36_5 : tfld Try.prog 36 5 = some (33, false) := by kernel_rfl
@[simp] theorem tplaces_36 : tplaces Try.prog 36 = some fun i => [(0, 1), (1, 1), (2, 29), (31, 1), (32, 1), (33, 1)][i]? := by kernel_rfl
@[simp] theorem zcells_36 : zcells Try.prog 36 = some [.sc (.int .i64 0), .sc (.slice none 0 0), .sc (.int .i64 0), .sc (.int .i64 0), .sc (.int .i64 0), .sc (.int .i64 0), .sc (.int .i64 0), .sc (.int .i64 0), .sc (.int .i64 0), .sc (.int .i64 0), .sc (.int .i64 0), .sc (.int .i64 0), .sc (.int .u32 0), .sc (.int .i64 0), .sc (.int .i64 0), .sc (.int .u32 0), .sc (.int .i64 0), .sc (.int .i64 0), .sc (.int .u32 0), .sc (.int .i64 0), .sc (.int .i64 0), .sc (.int .u32 0), .sc (.int .i64 0), .sc (.int .i64 0), .sc (.int .i64 0), .sc (.bool false), .sc (.bool false), .sc (.int .i64 0), .sc (.int .i64 0), .sc (.bool false), .sc (.bool false), .sc (.slice none 0 0), .sc (.int .i64 0), .sc (.int .i64 0)] := by kernel_rfl
@[simp] theorem tzero_36 : tzero Try.prog 36 = some (.agg #[.int .i64 0, .slice none 0 0, .int .i64 0, .int .i64 0, .int .i64 0, .int .i64 0, .int .i64 0, .int .i64 0, .int .i64 0, .int .i64 0, .int .i64 0, .int .i64 0, .int .u32 0, .int .i64 0, .int .i64 0, .int .u32 0, .int .i64 0, .int .i64 0, .int .u32 0, .int .i64 0, .int .i64 0, .int .u32 0, .int .i64 0, .int .i64 0, .int .i64 0, .bool false, .bool false, .int .i64 0, .int .i64 0, .bool false, .bool false, .slice none 0 0, .int .i64 0, .int .i64 0]) := by kernel_rfl
@[simp] theorem azero_36 : azero Try.prog 36 = some (.ag [.sc (.int .i64 0), .sc (.slice none 0 0), .sc (.int .i64 0), .sc (.int .i64 0), .sc (.int .i64 0), .sc (.int .i64 0), .sc (.int .i64 0), .sc (.int .i64 0), .sc (.int .i64 0), .sc (.int .i64 0), .sc (.int .i64 0), .sc (.int .i64 0), .sc (.int .u32 0), .sc (.int .i64 0), .sc (.int .i64 0), .sc (.int .u32 0), .sc (.int .i64 0), .sc (.int .i64 0), .sc (.int .u32 0), .sc (.int .i64 0), .sc (.int .i64 0), .sc (.int .u32 0), .sc (.int .i64 0), .sc (.int .i64 0), .sc (.int .i64 0), .sc (.bool false), .sc (.bool false), .sc (.int .i64 0), .sc (.int .i64 0), .sc (.bool false), .sc (.bool false), .sc (.slice none 0 0), .sc (.int .i64 0), .sc (.int .i64 0)]) := by kernel_rfl
@[simp] theorem tagg_37 : tagg Try.prog 37 = some true := by kernel_rfl
@[simp] theorem tsz_37 : tsz Try.prog 37 = some 34 := by kernel_rfl
@[simp] theorem tbytes_37 : tbytes Try.prog 37 = some 288 := by kernel_rfl
@[simp] theorem tfield_37_0 : tfield Try.prog 37 0 = some 0 := by kernel_rfl
@[simp] theorem tfld_37_0 : tfld Try.prog 37 0 = some (0, false) := by kernel_rfl
@[simp] theorem tfield_37_1 : tfield Try.prog 37 1 = some 1 := by kernel_rfl
@[simp] theorem tfld_37_1 : tfld Try.prog 37 1 = some (1, false) := by kernel_rfl
@[simp] theorem tfield_37_2 : tfield Try.prog 37 2 = some 2 := by kernel_rfl
@[simp] theorem tfld_37_2 : tfld Try.prog 37 2 = some (2, true) := by kernel_rfl
@[simp] theorem tfield_37_3 : tfield Try.prog 37 3 = some 31 := by kernel_rfl
@[simp] theorem tfld_37_3 : tfld Try.prog 37 3 = some (31, false) := by kernel_rfl
@[simp] theorem tfield_37_4 : tfield Try.prog 37 4 = some 32 := by kernel_rfl
@[simp] theorem tfld_37_4 : tfld Try.prog 37 4 = some (32, false) := by kernel_rfl
@[simp] theorem tfield_37_5 : tfield Try.prog 37 5 = some 33 := by kernel_rfl
@[simp] theorem tfld_37_5 : tfld Try.prog 37 5 = some (33, false) := by kernel_rfl
@[simp] theorem tplaces_37 : tplaces Try.prog 37 = some fun i => [(0, 1), (1, 1), (2, 29), (31, 1), (32, 1), (33, 1)][i]? := by kernel_rfl
@[simp] theorem zcells_37 : zcells Try.prog 37 = some [.sc (.int .i64 0), .sc (.slice none 0 0), .sc (.int .i64 0), .sc (.int .i64 0), .sc (.int .i64 0), .sc (.int .i64 0), .sc (.int .i64 0), .sc (.int .i64 0), .sc (.int .i64 0), .sc (.int .i64 0), .sc (.int .i64 0), .sc (.int .i64 0), .sc (.int .u32 0), .sc (.int .i64 0), .sc (.int .i64 0), .sc (.int .u32 0), .sc (.int .i64 0), .sc (.int .i64 0), .sc (.int .u32 0), .sc (.int .i64 0), .sc (.int .i64 0), .sc (.int .u32 0), .sc (.int .i64 0), .sc (.int .i64 0), .sc (.int .i64 0), .sc (.bool false), .sc (.bool false), .sc (.int .i64 0), .sc (.int .i64 0), .sc (.bool false), .sc (.bool false), .sc (.slice none 0 0), .sc (.int .i64 0), .sc (.int .i64 0)] := by kernel_rfl
@[simp] theorem tzero_37 : tzero Try.prog 37 = some (.agg #[.int .i64 0, .slice none 0 0, .int .i64 0, .int .i64 0, .int .i64 0, .int .i64 0, .int .i64 0, .int .i64 0, .int .i64 0, .int .i64 0, .int .i64 0, .int .i64 0, .int .u32 0, .int .i64 0, .int .i64 0, .int .u32 0, .int .i64 0, .int .i64 0, .int .u32 0, .int .i64 0, .int .i64 0, .int .u32 0, .int .i64 0, .int .i64 0, .int .i64 0, .bool false, .bool false, .int .i64 0, .int .i64 0, .bool false, .bool false, .slice none 0 0, .int .i64 0, .int .i64 0]) := by kernel_rfl
@[simp] theorem azero_37 : azero Try.prog 37 = some (.ag [.sc (.int .i64 0), .sc (.slice none 0 0), .sc (.int .i64 0), .sc (.int .i64 0), .sc (.int .i64 0), .sc (.int .i64 0), .sc (.int .i64 0), .sc (.int .i64 0), .sc (.int .i64 0), .sc (.int .i64 0), .sc (.int .i64 0), .sc (.int .i64 0), .sc (.int .u32 0), .sc (.int .i64 0), .sc (.int .i64 0), .sc (.int .u32 0), .sc (.int .i64 0), .sc (.int .i64 0), .sc (.int .u32 0), .sc (.int .i64 0), .sc (.int .i64 0), .sc (.int .u32 0), .sc (.int .i64 0), .sc (.int .i64 0), .sc (.int .i64 0), .sc (.bool false), .sc (.bool false), .sc (.int .i64 0), .sc (.int .i64 0), .sc (.bool false), .sc (.bool false), .sc (.slice none 0 0), .sc (.int .i64 0), .sc (.int .i64 0)]) := by kernel_rfl
@[simp] theorem tagg_38 : tagg Try.prog 38 = some false := by kernel_rfl
@[simp] theorem tsz_38 : tsz Try.prog 38 = some 1 := by kernel_rfl
@[simp] theorem tbytes_38 : tbytes Try.prog 38 = some 8 := by kernel_rfl
@[simp] theorem tint_38 : tint Try.prog 38 = some .i64 := by kernel_rfl
@[simp] theorem hasU_38 : hasU Try.prog 38 = true := by kernel_rfl
@[simp] theorem zcells_38 : zcells Try.prog 38 = some [.sc (.int .i64 0)] := by kernel_rfl
@[simp] theorem tzero_38 : tzero Try.prog 38 = some (.int .i64 0) := by kernel_rfl
@[simp] theorem azero_38 : azero Try.prog 38 = some (.sc (.int .i64 0)) := by kernel_rfl
@[simp] theorem tagg_40 : tagg Try.prog 40 = some false := by kernel_rfl
@[simp] theorem tsz_40 : tsz Try.prog 40 = some 1 := by kernel_rfl
@[simp] theorem tbytes_40 : tbytes Try.prog 40 = some 8 := by kernel_rfl
@[simp] theorem zcells_40 : zcells Try.prog 40 = some [.sc (.nilFunc)] := by kernel_rfl
@[simp] theorem tzero_40 : tzero Try.prog 40 = some (.nilFunc) := by kernel_rfl
@[simp] theorem azero_40 : azero Try.prog 40 = some (.sc (.nilFunc)) := by kernel_rfl
@[simp] theorem tagg_41 : tagg Try.prog 41 = some false := by kernel_rfl
@[simp] theorem tsz_41 : tsz Try.prog 41 = some 1 := by kernel_rfl
@[simp] theorem tbytes_41 : tbytes Try.prog 41 = some 8 := by kernel_rfl
@[simp] theorem zcells_41 : zcells Try.prog 41 = some [.sc (.nilFunc)] := by kernel_rfl
@[simp] theorem tzero_41 : tzero Try.prog 41 = some (.nilFunc) := by kernel_rfl
@[simp] theorem azero_41 : azero Try.prog 41 = some (.sc (.nilFunc)) := by kernel_rfl
@[simp] theorem tagg_42 : tagg Try.prog 42 = some false := by kernel_rfl
@[simp] theorem tsz_42 : tsz Try.prog 42 = some 1 := by kernel_rfl
@[simp] theorem tbytes_42 : tbytes Try.prog 42 = some 8 := by kernel_rfl
@[simp] theorem zcells_42 : zcells Try.prog 42 = some [.sc (.nilFunc)] := by kernel_rfl
@[simp] theorem tzero_42 : tzero Try.prog 42 = some (.nilFunc) := by kernel_rfl
@[simp] theorem azero_42 : azero Try.prog 42 = some (.sc (.nilFunc)) := by kernel_rfl
@[simp] theorem tagg_43 : tagg Try.prog 43 = some false := by kernel_rfl
@[simp] theorem tsz_43 : tsz Try.prog 43 = some 1 := by kernel_rfl
@[simp] theorem tbytes_43 : tbytes Try.prog 43 = some 8 := by kernel_rfl
@[simp] theorem zcells_43 : zcells Try.prog 43 = some [.sc (.nilFunc)] := by kernel_rfl
@[simp] theorem tzero_43 : tzero Try.prog 43 = some (.nilFunc) := by kernel_rfl
@[simp] theorem azero_43 : azero Try.prog 43 = some (.sc (.nilFunc)) := by kernel_rfl
@[simp] theorem tagg_45 : tagg Try.prog 45 = some false := by kernel_rfl
@[simp] theorem tsz_45 : tsz Try.prog 45 = some 1 := by kernel_rfl
@[simp] theorem tbytes_45 : tbytes Try.prog 45 = some 8 := by kernel_rfl
@[simp] theorem zcells_45 : zcells Try.prog 45 = some [.sc (.nilFunc)] := by kernel_rfl
@[simp] theorem tzero_45 : tzero Try.prog 45 = some (.nilFunc) := by kernel_rfl
@[simp] theorem azero_45 : azero Try.prog 45 = some (.sc (.nilFunc)) := by kernel_rfl
@[simp] theorem tagg_46 : tagg Try.prog 46 = some false := by kernel_rfl
@[simp] theorem tsz_46 : tsz Try.prog 46 = some 1 := by kernel_rfl
@[simp] theorem tbytes_46 : tbytes Try.prog 46 = some 8 := by kernel_rfl
@[simp] theorem zcells_46 : zcells Try.prog 46 = some [.sc (.nilFunc)] := by kernel_rfl
@[simp] theorem tzero_46 : tzero Try.prog 46 = some (.nilFunc) := by kernel_rfl
@[simp] theorem azero_46 : azero Try.prog 46 = some (.sc (.nilFunc)) := by kernel_rfl
@[simp] theorem tagg_48 : tagg Try.prog 48 = some false := by kernel_rfl
@[simp] theorem tsz_48 : tsz Try.prog 48 = some 1 := by kernel_rfl
@[simp] theorem tbytes_48 : tbytes Try.prog 48 = some 8 := by kernel_rfl
@[simp] theorem zcells_48 : zcells Try.prog 48 = some [.sc (.nilFunc)] := by kernel_rfl
@[simp] theorem tzero_48 : tzero Try.prog 48 = some (.nilFunc) := by kernel_rfl
@[simp] theorem azero_48 : azero Try.prog 48 = some (.sc (.nilFunc)) := by kernel_rfl
@[simp] theorem tagg_49 : tagg Try.prog 49 = some false := by kernel_rfl
@[simp] theorem tsz_49 : tsz Try.prog 49 = some 1 := by kernel_rfl
@[simp] theorem tbytes_49 : tbytes Try.prog 49 = some 8 := by kernel_rfl
@[simp] theorem zcells_49 : zcells Try.prog 49 = some [.sc (.nilFunc)] := by kernel_rfl
@[simp] theorem tzero_49 : tzero Try.prog 49 = some (.nilFunc) := by kernel_rfl
@[simp] theorem azero_49 : azero Try.prog 49 = some (.sc (.nilFunc)) := by kernel_rfl
@[simp] theorem tagg_50 : tagg Try.prog 50 = some false := by kernel_rfl
@[simp] theorem tsz_50 : tsz Try.prog 50 = some 1 := by kernel_rfl
@[simp] theorem tbytes_50 : tbytes Try.prog 50 = some 8 := by kernel_rfl
@[simp] theorem zcells_50 : zcells Try.prog 50 = some [.sc (.nilFunc)] := by kernel_rfl
@[simp] theorem tzero_50 : tzero Try.prog 50 = some (.nilFunc) := by kernel_rfl
@[simp] theorem azero_50 : azero Try.prog 50 = some (.sc (.nilFunc)) := by kernel_rfl
@[simp] theorem tagg_51 : tagg Try.prog 51 = some false := by kernel_rfl
@[simp] theorem tsz_51 : tsz Try.prog 51 = some 1 := by kernel_rfl
@[simp] theorem tbytes_51 : tbytes Try.prog 51 = some 8 := by kernel_rfl
@[simp] theorem zcells_51 : zcells Try.prog 51 = some [.sc (.nilFunc)] := by kernel_rfl
@[simp] theorem tzero_51 : tzero Try.prog 51 = some (.nilFunc) := by kernel_rfl
@[simp] theorem azero_51 : azero Try.prog 51 = some (.sc (.nilFunc)) := by kernel_rfl
@[simp] theorem tagg_52 : tagg Try.prog 52 = some false := by kernel_rfl
@[simp] theorem tsz_52 : tsz Try.prog 52 = some 1 := by kernel_rfl
@[simp] theorem tbytes_52 : tbytes Try.prog 52 = some 8 := by kernel_rfl
@[simp] theorem zcells_52 : zcells Try.prog 52 = some [.sc (.nilFunc)] := by kernel_rfl
@[simp] theorem tzero_52 : tzero Try.prog 52 = some (.nilFunc) := by kernel_rfl
@[simp] theorem azero_52 : azero Try.prog 52 = some (.sc (.nilFunc)) := by kernel_rfl
@[simp] theorem tagg_53 : tagg Try.prog 53 = some false := by kernel_rfl
@[simp] theorem tsz_53 : tsz Try.prog 53 = some 1 := by kernel_rfl
@[simp] theorem tbytes_53 : tbytes Try.prog 53 = some 8 := by kernel_rfl
@[simp] theorem zcells_53 : zcells Try.prog 53 = some [.sc (.nilFunc)] := by kernel_rfl
@[simp] theorem tzero_53 : tzero Try.prog 53 = some (.nilFunc) := by kernel_rfl
@[simp] theorem azero_53 : azero Try.prog 53 = some (.sc (.nilFunc)) := by kernel_rfl
@[simp] theorem tagg_54 : tagg Try.prog 54 = some false := by kernel_rfl
@[simp] theorem tsz_54 : tsz Try.prog 54 = some 1 := by kernel_rfl
@[simp] theorem tbytes_54 : tbytes Try.prog 54 = some 8 := by kernel_rfl
@[simp] theorem zcells_54 : zcells Try.prog 54 = some [.sc (.nilFunc)] := by kernel_rfl
@[simp] theorem tzero_54 : tzero Try.prog 54 = some (.nilFunc) := by kernel_rfl
@[simp] theorem azero_54 : azero Try.prog 54 = some (.sc (.nilFunc)) := by kernel_rfl
@[simp] theorem tagg_56 : tagg Try.prog 56 = some false := by kernel_rfl
@[simp] theorem tsz_56 : tsz Try.prog 56 = some 1 := by kernel_rfl
@[simp] theorem tbytes_56 : tbytes Try.prog 56 = some 8 := by kernel_rfl
@[simp] theorem zcells_56 : zcells Try.prog 56 = some [.sc (.nilFunc)] := by kernel_rfl
@[simp] theorem tzero_56 : tzero Try.prog 56 = some (.nilFunc) := by kernel_rfl
@[simp] theorem azero_56 : azero Try.prog 56 = some (.sc (.nilFunc)) := by kernel_rfl
@[simp] theorem tagg_57 : tagg Try.prog 57 = some false := by kernel_rfl
@[simp] theorem tsz_57 : tsz Try.prog 57 = some 1 := by kernel_rfl
@[simp] theorem tbytes_57 : tbytes Try.prog 57 = some 24 := by kernel_rfl
@[simp] theorem tslice_57 : tslice Try.prog 57 = some 65 := by kernel_rfl
@[simp] theorem zcells_57 : zcells Try.prog 57 = some [.sc (.slice none 0 0)] := by kernel_rfl
@[simp] theorem tzero_57 : tzero Try.prog 57 = some (.slice none 0 0) := by kernel_rfl
@[simp] theorem azero_57 : azero Try.prog 57 = some (.sc (.slice none 0 0)) := by kernel_rfl
@[simp] theorem tagg_59 : tagg Try.prog 59 = some false := by kernel_rfl
@[simp] theorem tsz_59 : tsz Try.prog 59 = some 1 := by kernel_rfl
@[simp] theorem tbytes_59 : tbytes Try.prog 59 = some 8 := by kernel_rfl
@[simp] theorem zcells_59 : zcells Try.prog 59 = some [.sc (.nilFunc)] := by kernel_rfl
@[simp] theorem tzero_59 : tzero Try.prog 59 = some (.nilFunc) := by kernel_rfl
@[simp] theorem azero_59 : azero Try.prog 59 = some (.sc (.nilFunc)) := by kernel_rfl
@[simp] theorem tagg_60 : tagg Try.prog 60 = some false := by kernel_rfl
@[simp] theorem tsz_60 : tsz Try.prog 60 = some 1 := by kernel_rfl
@[simp] theorem tbytes_60 : tbytes Try.prog 60 = some 8 := by kernel_rfl
@[simp] theorem zcells_60 : zcells Try.prog 60 = some [.sc (.nilFunc)] := by kernel_rfl
@[simp] theorem tzero_60 : tzero Try.prog 60 = some (.nilFunc) := by kernel_rfl
@[simp] theorem azero_60 : azero Try.prog 60 = some (.sc (.nilFunc)) := by kernel_rfl
@[simp] theorem tagg_61 : tagg Try.prog 61 = some false := by kernel_rfl
@[simp] theorem tsz_61 : tsz Try.prog 61 = some 1 := by kernel_rfl
@[simp] theorem tbytes_61 : tbytes Try.prog 61 = some 8 := by kernel_rfl
@[simp] theorem zcells_61 : zcells Try.prog 61 = some [.sc (.nilFunc)] := by kernel_rfl
@[simp] theorem tzero_61 : tzero Try.prog 61 = some (.nilFunc) := by kernel_rfl
@[simp] theorem azero_61 : azero Try.prog 61 = some (.sc (.nilFunc)) := by kernel_rfl
@[simp] theorem tagg_62 : tagg Try.prog 62 = some false := by kernel_rfl
@[simp] theorem tsz_62 : tsz Try.prog 62 = some 1 := by kernel_rfl
@[simp] theorem tbytes_62 : tbytes Try.prog 62 = some 8 := by kernel_rfl
@[simp] theorem zcells_62 : zcells Try.prog 62 = some [.sc (.nilFunc)] := by kernel_rfl
@[simp] theorem tzero_62 : tzero Try.prog 62 = some (.nilFunc) := by kernel_rfl
@[simp] theorem azero_62 : azero Try.prog 62 = some (.sc (.nilFunc)) := by kernel_rfl
@[simp] theorem tagg_63 : tagg Try.prog 63 = some false := by kernel_rfl
@[simp] theorem tsz_63 : tsz Try.prog 63 = some 1 := by kernel_rfl
@[simp] theorem tbytes_63 : tbytes Try.prog 63 = some 8 := by kernel_rfl
@[simp] theorem zcells_63 : zcells Try.prog 63 = some [.sc (.nilFunc)] := by kernel_rfl
@[simp] theorem tzero_63 : tzero Try.prog 63 = some (.nilFunc) := by kernel_rfl
@[simp] theorem azero_63 : azero Try.prog 63 = some (.sc (.nilFunc)) := by kernel_rfl
@[simp] theorem tagg_64 : tagg Try.prog 64 = some true := by kernel_rfl
@[simp] theorem tsz_64 : tsz Try.prog 64 = some 2 := by kernel_rfl
@[simp] theorem tbytes_64 : tbytes Try.prog 64 = some 16 := by kernel_rfl
@[simp] theorem tfield_64_0 : tfield Try.prog 64 0 = some 0 := by kernel_rfl
@[simp] theorem tfld_64_0 : tfld Try.prog 64 0 = some (0, false) := by kernel_rfl
@[simp] theorem tfield_64_1 : tfield Try.prog 64 1 = some 1 := by kernel_rfl
@[simp] theorem tfld_64_1 : tfld Try.prog 64 1 = some (1, false) := by kernel_rfl
@[simp] theorem tplaces_64 : tplaces Try.prog 64 = some fun i => [(0, 1), (1, 1)][i]? := by kernel_rfl
@[simp] theorem zcells_64 : zcells Try.prog 64 = some [.sc (.int .i64 0), .sc (.int .i64 0)] := by kernel_rfl
@[simp] theorem tzero_64 : tzero Try.prog 64 = some (.agg #[.int .i64 0, .int .i64 0]) := by kernel_rfl
@[simp] theorem azero_64 : azero Try.prog 64 = some (.ag [.sc (.int .i64 0), .sc (.int .i64 0)]) := by kernel_rfl
@[simp] theorem tagg_65 : tagg Try.prog 65 = some true := by kernel_rfl
@[simp] theorem tsz_65 : tsz Try.prog 65 = some 2 := by kernel_rfl
@[simp] theorem tbytes_65 : tbytes Try.prog 65 = some 16 := by kernel_rfl
@[simp] theorem tfield_65_0 : tfield Try.prog 65 0 = some 0 := by kernel_rfl
@[simp] theorem tfld_65_0 : tfld Try.prog 65 0 = some (0, false) := by kernel_rfl
@[simp] theorem tfield_65_1 : tfield Try.prog 65 1 = some 1 := by kernel_rfl
@[simp] theorem tfld_65_1 : tfld Try.prog 65 1 = some (1, false) := by kernel_rfl
@[simp] theorem tplaces_65 : tplaces Try.prog 65 = some fun i => [(0, 1), (1, 1)][i]? := by kernel_rfl
@[simp] theorem zcells_65 : zcells Try.prog 65 = some [.sc (.int .i64 0), .sc (.int .i64 0)] := by kernel_rfl
@[simp] theorem tzero_65 : tzero Try.prog 65 = some (.agg #[.int .i64 0, .int .i64 0]) := by kernel_rfl
@[simp] theorem azero_65 : azero Try.prog 65 = some (.ag [.sc (.int .i64 0), .sc (.int .i64 0)]) := by kernel_rfl
@[simp] theorem tagg_66 : tagg Try.prog 66 = some false := by kernel_rfl
@[simp] theorem tsz_66 : tsz Try.prog 66 = some 1 := by kernel_rfl
@[simp] theorem tbytes_66 : tbytes Try.prog 66 = some 8 := by kernel_rfl
@[simp] theorem zcells_66 : zcells Try.prog 66 = some [.sc (.nilFunc)] := by kernel_rfl
@[simp] theorem tzero_66 : tzero Try.prog 66 = some (.nilFunc) := by kernel_rfl
@[simp] theorem azero_66 : azero Try.prog 66 = some (.sc (.nilFunc)) := by kernel_rfl
@[simp] theorem tagg_67 : tagg Try.prog 67 = some false := by kernel_rfl
@[simp] theorem tsz_67 : tsz Try.prog 67 = some 1 := by kernel_rfl
@[simp] theorem tbytes_67 : tbytes Try.prog 67 = some 8 := by kernel_rfl
@[simp] theorem zcells_67 : zcells Try.prog 67 = some [.sc (.nilFunc)] := by kernel_rfl
@[simp] theorem tzero_67 : tzero Try.prog 67 = some (.nilFunc) := by kernel_rfl
@[simp] theorem azero_67 : azero Try.prog 67 = some (.sc (.nilFunc)) := by kernel_rfl
@[simp] theorem tagg_68 : tagg Try.prog 68 = some false := by kernel_rfl
@[simp] theorem tsz_68 : tsz Try.prog 68 = some 1 := by kernel_rfl
@[simp] theorem tbytes_68 : tbytes Try.prog 68 = some 8 := by kernel_rfl
@[simp] theorem zcells_68 : zcells Try.prog 68 = some [.sc (.nilFunc)] := by kernel_rfl
@[simp] theorem tzero_68 : tzero Try.prog 68 = some (.nilFunc) := by kernel_rfl
@[simp] theorem azero_68 : azero Try.prog 68 = some (.sc (.nilFunc)) := by kernel_rfl
@[simp] theorem tagg_69 : tagg Try.prog 69 = some false := by kernel_rfl
@[simp] theorem tsz_69 : tsz Try.prog 69 = some 1 := by kernel_rfl
@[simp] theorem tbytes_69 : tbytes Try.prog 69 = some 8 := by kernel_rfl
@[simp] theorem zcells_69 : zcells Try.prog 69 = some [.sc (.nilFunc)] := by kernel_rfl
@[simp] theorem tzero_69 : tzero Try.prog 69 = some (.nilFunc) := by kernel_rfl
@[simp] theorem azero_69 : azero Try.prog 69 = some (.sc (.nilFunc)) := by kernel_rfl
@[simp] theorem tagg_70 : tagg Try.prog 70 = some false := by kernel_rfl
@[simp] theorem tsz_70 : tsz Try.prog 70 = some 1 := by kernel_rfl
@[simp] theorem tbytes_70 : tbytes Try.prog 70 = some 8 := by kernel_rfl
@[simp] theorem zcells_70 : zcells Try.prog 70 = some [.sc (.nilFunc)] := by kernel_rfl
@[simp] theorem tzero_70 : tzero Try.prog 70 = some (.nilFunc) := by kernel_rfl
@[simp] theorem azero_70 : azero Try.prog 70 = some (.sc (.nilFunc)) := by kernel_rfl
@[simp] theorem tagg_71 : tagg Try.prog 71 = some false := by kernel_rfl
@[simp] theorem tsz_71 : tsz Try.prog 71 = some 1 := by kernel_rfl
@[simp] theorem tbytes_71 : tbytes Try.prog 71 = some 8 := by kernel_rfl
@[simp] theorem zcells_71 : zcells Try.prog 71 = some [.sc (.nilFunc)] := by kernel_rfl
@[simp] theorem tzero_71 : tzero Try.prog 71 = some (.nilFunc) := by kernel_rfl
@[simp] theorem azero_71 : azero Try.prog 71 = some (.sc (.nilFunc)) := by kernel_rfl
@[simp] theorem tagg_72 : tagg Try.prog 72 = some false := by kernel_rfl
@[simp] theorem tsz_72 : tsz Try.prog 72 = some 1 := by kernel_rfl
@[simp] theorem tbytes_72 : tbytes Try.prog 72 = some 24 := by kernel_rfl
@[simp] theorem tslice_72 : tslice Try.prog 72 = some 144 := by kernel_rfl
@[simp] theorem zcells_72 : zcells Try.prog 72 = some [.sc (.slice none 0 0)] := by kernel_rfl
@[simp] theorem tzero_72 : tzero Try.prog 72 = some (.slice none 0 0) := by kernel_rfl
@[simp] theorem azero_72 : azero Try.prog 72 = some (.sc (.slice none 0 0)) := by kernel_rfl
@[simp] theorem tagg_74 : tagg Try.prog 74 = some false := by kernel_rfl
@[simp] theorem tsz_74 : tsz Try.prog 74 = some 1 := by kernel_rfl
@[simp] theorem tbytes_74 : tbytes Try.prog 74 = some 8 := by kernel_rfl
@[simp] theorem zcells_74 : zcells Try.prog 74 = some [.sc (.nilFunc)] := by kernel_rfl
@[simp] theorem tzero_74 : tzero Try.prog 74 = some (.nilFunc) := by kernel_rfl
@[simp] theorem azero_74 : azero Try.prog 74 = some (.sc (.nilFunc)) := by kernel_rfl
@[simp] theorem tagg_76 : tagg Try.prog 76 = some false := by kernel_rfl
@[simp] theorem tsz_76 : tsz Try.prog 76 = some 1 := by kernel_rfl
@[simp] theorem tbytes_76 : tbytes Try.prog 76 = some 8 := by kernel_rfl
@[simp] theorem zcells_76 : zcells Try.prog 76 = some [.sc (.nilFunc)] := by kernel_rfl
@[simp] theorem tzero_76 : tzero Try.prog 76 = some (.nilFunc) := by kernel_rfl
@[simp] theorem azero_76 : azero Try.prog 76 = some (.sc (.nilFunc)) := by kernel_rfl
@[simp] theorem tagg_77 : tagg Try.prog 77 = some false := by kernel_rfl
@[simp] theorem tsz_77 : tsz Try.prog 77 = some 1 := by kernel_rfl
@[simp] theorem tbytes_77 : tbytes Try.prog 77 = some 8 := by kernel_rfl
@[simp] theorem zcells_77 : zcells Try.prog 77 = some [.sc (.nilFunc)] := by kernel_rfl
@[simp] theorem tzero_77 : tzero Try.prog 77 = some (.nilFunc) := by kernel_rfl
@[simp] theorem azero_77 : azero Try.prog 77 = some (.sc (.nilFunc)) := by kernel_rfl
@[simp] theorem tagg_78 : tagg Try.prog 78 = some false := by kernel_rfl
@[simp] theorem tsz_78 : tsz Try.prog 78 = some 1 := by kernel_rfl
@[simp] theorem tbytes_78 : tbytes Try.prog 78 = some 24 := by kernel_rfl
@[simp] theorem tslice_78 : tslice Try.prog 78 = some 81 := by kernel_rfl
@[simp] theorem zcells_78 : zcells Try.prog 78 = some [.sc (.slice none 0 0)] := by kernel_rfl
@[simp] theorem tzero_78 : tzero Try.prog 78 = some (.slice none 0 0) := by kernel_rfl
@[simp] theorem azero_78 : azero Try.prog 78 = some (.sc (.slice none 0 0)) := by kernel_rfl
@[simp] theorem tagg_79 : tagg Try.prog 79 = some false := by kernel_rfl
@[simp] theorem tsz_79 : tsz Try.prog 79 = some 1 := by kernel_rfl
@[simp] theorem tbytes_79 : tbytes Try.prog 79 = some 8 := by kernel_rfl
@[simp] theorem zcells_79 : zcells Try.prog 79 = some [.sc (.nilFunc)] := by kernel_rfl
@[simp] theorem tzero_79 : tzero Try.prog 79 = some (.nilFunc) := by kernel_rfl
@[simp] theorem azero_79 : azero Try.prog 79 = some (.sc (.nilFunc)) := by kernel_rfl
@[simp] theorem tagg_80 : tagg Try.prog 80 = some true := by kernel_rfl
@[simp] theorem tsz_80 : tsz Try.prog 80 = some 5 := by kernel_rfl
@[simp] theorem tbytes_80 : tbytes Try.prog 80 = some 40 := by kernel_rfl
@[simp] theorem tfield_80_0 : tfield Try.prog 80 0 = some 0 := by kernel_rfl
@[simp] theorem tfld_80_0 : tfld Try.prog 80 0 = some (0, false) := by kernel_rfl
@[simp] theorem tfield_80_1 : tfield Try.prog 80 1 = some 1 := by kernel_rfl
@[simp] theorem tfld_80_1 : tfld Try.prog 80 1 = some (1, false) := by kernel_rfl
@[simp] theorem tfield_80_2 : tfield Try.prog 80 2 = some 2 := by kernel_rfl
@[simp] theorem tfld_80_2 : tfld Try.prog 80 2 = some (2, false) := by kernel_rfl
@[simp] theorem tfield_80_3 : tfield Try.prog 80 3 = some 3 := by kernel_rfl
@[simp] theorem tfld_80_3 : tfld Try.prog 80 3 = some (3, false) := by kernel_rfl
@[simp] theorem tfield_80_4 : tfield Try.prog 80 4 = some 4 := by kernel_rfl
@[simp] theorem tfld_80_4 : tfld Try.prog 80 4 = some (4, false) := by kernel_rfl
@[simp] theorem tplaces_80 : tplaces Try.prog 80 = some fun i => [(0, 1), (1, 1), (2, 1), (3, 1), (4, 1)][i]? := by kernel_rfl
@[simp] theorem zcells_80 : zcells Try.prog 80 = some [.sc (.int .i64 0), .sc (.int .i64 0), .sc (.int .i64 0), .sc (.int .i64 0), .sc (.bool false)] := by kernel_rfl
@[simp] theorem tzero_80 : tzero Try.prog 80 = some (.agg #[.int .i64 0, .int .i64 0, .int .i64 0, .int .i64 0, .bool false]) := by kernel_rfl
@[simp] theorem azero_80 : azero Try.prog 80 = some (.ag [.sc (.int .i64 0), .sc (.int .i64 0), .sc (.int .i64 0), .sc (.int .i64 0), .sc (.bool false)]) := by kernel_rfl
@[simp] theorem tagg_81 : tagg Try.prog 81 = some true := by kernel_rfl
@[simp] theorem tsz_81 : tsz Try.prog 81 = some 5 := by kernel_rfl
@[simp] theorem tbytes_81 : tbytes Try.prog 81 = some 40 := by kernel_rfl
@[simp] theorem tfield_81_0 : tfield Try.prog 81 0 = some 0 := by kernel_rfl
@[simp] theorem tfld_81_0 : tfld Try.prog 81 0 = some (0, false) := by kernel_rfl
@[simp] theorem tfield_81_1 : tfield Try.prog 81 1 = some 1 := by kernel_rfl
@[simp] theorem tfld_81_1 : tfld Try.prog 81 1 = some (1, false) := by kernel_rfl
@[simp] theorem tfield_81_2 : tfield Try.prog 81 2 = some 2 := by kernel_rfl
@[simp] theorem tfld_81_2 : tfld Try.prog 81 2 = some (2, false) := by kernel_rfl
@[simp] theorem tfield_81_3 : tfield Try.prog 81 3 = some 3 := by kernel_rfl
@[simp] theorem tfld_81_3 : tfld Try.prog 81 3 = some (3, false) := by kernel_rfl
@[simp] theorem tfield_81_4 : tfield Try.prog 81 4 = some 4 := by kernel_rfl
@[simp] theorem tfld_81_4 : tfld Try.prog 81 4 = some (4, false) := by kernel_rfl
@[simp] theorem tplaces_81 : tplaces Try.prog 81 = some fun i => [(0, 1), (1, 1), (2, 1), (3, 1), (4, 1)][i]? := by kernel_rfl
@[simp] theorem zcells_81 : zcells Try.prog 81 = some [.sc (.int .i64 0), .sc (.int .i64 0), .sc (.int .i64 0), .sc (.int .i64 0), .sc (.bool false)] := by kernel_rfl
@[simp] theorem tzero_81 : tzero Try.prog 81 = some (.agg #[.int .i64 0, .int .i64 0, .int .i64 0, .int .i64 0, .bool false]) := by kernel_rfl
@[simp] theorem azero_81 : azero Try.prog 81 = some (.ag [.sc (.int .i64 0), .sc (.int .i64 0), .sc (.int .i64 0), .sc (.int .i64 0), .sc (.bool false)]) := by kernel_rfl
@[simp] theorem tagg_82 : tagg Try.prog 82 = some false := by kernel_rfl
@[simp] theorem tsz_82 : tsz Try.prog 82 = some 1 := by kernel_rfl
@[simp] theorem tbytes_82 : tbytes Try.prog 82 = some 8 := by kernel_rfl
@[simp] theorem zcells_82 : zcells Try.prog 82 = some [.sc (.nilFunc)] := by kernel_rfl
@[simp] theorem tzero_82 : tzero Try.prog 82 = some (.nilFunc) := by kernel_rfl
@[simp] theorem azero_82 : azero Try.prog 82 = some (.sc (.nilFunc)) := by kernel_rfl
@[simp] theorem tagg_83 : tagg Try.prog 83 = some false := by kernel_rfl
@[simp] theorem tsz_83 : tsz Try.prog 83 = some 1 := by kernel_rfl
@[simp] theorem tbytes_83 : tbytes Try.prog 83 = some 8 := by kernel_rfl
@[simp] theorem zcells_83 : zcells Try.prog 83 = some [.sc (.nilFunc)] := by kernel_rfl
@[simp] theorem tzero_83 : tzero Try.prog 83 = some (.nilFunc) := by kernel_rfl
@[simp] theorem azero_83 : azero Try.prog 83 = some (.sc (.nilFunc)) := by kernel_rfl
@[simp] theorem tagg_85 : tagg Try.prog 85 = some false := by kernel_rfl
@[simp] theorem tsz_85 : tsz Try.prog 85 = some 1 := by kernel_rfl
@[simp] theorem tbytes_85 : tbytes Try.prog 85 = some 8 := by kernel_rfl
@[simp] theorem zcells_85 : zcells Try.prog 85 = some [.sc (.nilFunc)] := by kernel_rfl
@[simp] theorem tzero_85 : tzero Try.prog 85 = some (.nilFunc) := by kernel_rfl
@[simp] theorem azero_85 : azero Try.prog 85 = some (.sc (.nilFunc)) := by kernel_rfl
@[simp] theorem tagg_86 : tagg Try.prog 86 = some false := by kernel_rfl
@[simp] theorem tsz_86 : tsz Try.prog 86 = some 1 := by kernel_rfl
@[simp] theorem tbytes_86 : tbytes Try.prog 86 = some 8 := by kernel_rfl
@[simp] theorem zcells_86 : zcells Try.prog 86 = some [.sc (.nilFunc)] := by kernel_rfl
@[simp] theorem tzero_86 : tzero Try.prog 86 = some (.nilFunc) := by kernel_rfl
@[simp] theorem azero_86 : azero Try.prog 86 = some (.sc (.nilFunc)) := by kernel_rfl
@[simp] theorem tagg_87 : tagg Try.prog 87 = some false := by kernel_rfl
@[simp] theorem tsz_87 : tsz Try.prog 87 = some 1 := by kernel_rfl
@[simp] theorem tbytes_87 : tbytes Try.prog 87 = some 8 := by kernel_rfl
@[simp] theorem zcells_87 : zcells Try.prog 87 = some [.sc (.nilFunc)] := by kernel_rfl
@[simp] theorem tzero_87 : tzero Try.prog 87 = some (.nilFunc) := by kernel_rfl
@[simp] theorem azero_87 : azero Try.prog 87 = some (.sc (.nilFunc)) := by kernel_rfl
@[simp] theorem tagg_88 : tagg Try.prog 88 = some false := by kernel_rfl
@[simp] theorem tsz_88 : tsz Try.prog 88 = some 1 := by kernel_rfl
@[simp] theorem tbytes_88 : tbytes Try.prog 88 = some 8 := by kernel_rfl
@[simp] theorem zcells_88 : zcells Try.prog 88 = some [.sc (.nilFunc)] := by kernel_rfl
@[simp] theorem tzero_88 : tzero Try.prog 88 = some (.nilFunc) := by kernel_rfl
@[simp] theorem azero_88 : azero Try.prog 88 = some (.sc (.nilFunc)) := by kernel_rfl
@[simp] theorem tagg_89 : tagg Try.prog 89 = some false := by kernel_rfl
@[simp] theorem tsz_89 : tsz Try.prog 89 = some 1 := by kernel_rfl
@[simp] theorem tbytes_89 : tbytes Try.prog 89 = some 8 := by kernel_rfl
@[simp] theorem zcells_89 : zcells Try.prog 89 = some [.sc (.nilFunc)] := by kernel_rfl
@[simp] theorem tzero_89 : tzero Try.prog 89 = some (.nilFunc) := by kernel_rfl
@[simp] theorem azero_89 : azero Try.prog 89 = some (.sc (.nilFunc)) := by kernel_rfl
@[simp] theorem tagg_90 : tagg Try.prog 90 = some false := by kernel_rfl
@[simp] theorem tsz_90 : tsz Try.prog 90 = some 1 := by kernel_rfl
@[simp] theorem tbytes_90 : tbytes Try.prog 90 = some 24 := by kernel_rfl
@[simp] theorem tslice_90 : tslice Try.prog 90 = some 154 := by kernel_rfl
@[simp] theorem zcells_90 : zcells Try.prog 90 = some [.sc (.slice none 0 0)] := by kernel_rfl
@[simp] theorem tzero_90 : tzero Try.prog 90 = some (.slice none 0 0) := by kernel_rfl
@[simp] theorem azero_90 : azero Try.prog 90 = some (.sc (.slice none 0 0)) := by kernel_rfl
@[simp] theorem tagg_92 : tagg Try.prog 92 = some false := by kernel_rfl
@[simp] theorem tsz_92 : tsz Try.prog 92 = some 1 := by kernel_rfl
@[simp] theorem tbytes_92 : tbytes Try.prog 92 = some 8 := by kernel_rfl
@[simp] theorem zcells_92 : zcells Try.prog 92 = some [.sc (.nilFunc)] := by kernel_rfl
@[simp] theorem tzero_92 : tzero Try.prog 92 = some (.nilFunc) := by kernel_rfl
@[simp] theorem azero_92 : azero Try.prog 92 = some (.sc (.nilFunc)) := by kernel_rfl
@[simp] theorem tagg_94 : tagg Try.prog 94 = some false := by kernel_rfl
@[simp] theorem tsz_94 : tsz Try.prog 94 = some 1 := by kernel_rfl
@[simp] theorem tbytes_94 : tbytes Try.prog 94 = some 8 := by kernel_rfl
@[simp] theorem zcells_94 : zcells Try.prog 94 = some [.sc (.nilFunc)] := by kernel_rfl
@[simp] theorem tzero_94 : tzero Try.prog 94 = some (.nilFunc) := by kernel_rfl
@[simp] theorem azero_94 : azero Try.prog 94 = some (.sc (.nilFunc)) := by kernel_rfl
@[simp] theorem tagg_95 : tagg Try.prog 95 = some false := by kernel_rfl
@[simp] theorem tsz_95 : tsz Try.prog 95 = some 1 := by kernel_rfl
@[simp] theorem tbytes_95 : tbytes Try.prog 95 = some 8 := by kernel_rfl
@[simp] theorem zcells_95 : zcells Try.prog 95 = some [.sc (.nilFunc)] := by kernel_rfl
@[simp] theorem tzero_95 : tzero Try.prog 95 = some (.nilFunc) := by kernel_rfl
@[simp] theorem azero_95 : azero Try.prog 95 = some (.sc (.nilFunc)) := by kernel_rfl
@[simp] theorem tagg_96 : tagg Try.prog 96 = some false := by kernel_rfl
@[simp] theorem tsz_96 : tsz Try.prog 96 = some 1 := by kernel_rfl
@[simp] theorem tbytes_96 : tbytes Try.prog 96 = some 8 := by kernel_rfl
@[simp] theorem zcells_96 : zcells Try.prog 96 = some [.sc (.nilFunc)] := by kernel_rfl
@[simp] theorem tzero_96 : tzero Try.prog 96 = some (.nilFunc) := by kernel_rfl
@[simp] theorem azero_96 : azero Try.prog 96 = some (.sc (.nilFunc)) := by kernel_rfl
@[simp] theorem tagg_97 : tagg Try.prog 97 = some false := by kernel_rfl
@[simp] theorem tsz_97 : tsz Try.prog 97 = some 1 := by kernel_rfl
@[simp] theorem tbytes_97 : tbytes Try.prog 97 = some 8 := by kernel_rfl
@[simp] theorem zcells_97 : zcells Try.prog 97 = some [.sc (.nilFunc)] := by kernel_rfl
@[simp] theorem tzero_97 : tzero Try.prog 97 = some (.nilFunc) := by kernel_rfl
@[simp] theorem azero_97 : azero Try.prog 97 = some (.sc (.nilFunc)) := by kernel_rfl
@[simp] theorem tagg_98 : tagg Try.prog 98 = some false := by kernel_rfl
@[simp] theorem tsz_98 : tsz Try.prog 98 = some 1 := by kernel_rfl
@[simp] theorem tbytes_98 : tbytes Try.prog 98 = some 8 := by kernel_rfl
@[simp] theorem zcells_98 : zcells Try.prog 98 = some [.sc (.nilFunc)] := by kernel_rfl
@[simp] theorem tzero_98 : tzero Try.prog 98 = some (.nilFunc) := by kernel_rfl
@[simp] theorem azero_98 : azero Try.prog 98 = some (.sc (.nilFunc)) := by kernel_rfl
@[simp] theorem tagg_99 : tagg Try.prog 99 = some false := by kernel_rfl
@[simp] theorem tsz_99 : tsz Try.prog 99 = some 1 := by kernel_rfl
@[simp] theorem tbytes_99 : tbytes Try.prog 99 = some 8 := by kernel_rfl
@[simp] theorem zcells_99 : zcells Try.prog 99 = some [.sc (.nilFunc)] := by kernel_rfl
@[simp] theorem tzero_99 : tzero Try.prog 99 = some (.nilFunc) := by kernel_rfl
@[simp] theorem azero_99 : azero Try.prog 99 = some (.sc (.nilFunc)) := by kernel_rfl
@[simp] theorem tagg_100 : tagg Try.prog 100 = some false := by kernel_rfl
@[simp] theorem tsz_100 : tsz Try.prog 100 = some 1 := by kernel_rfl
@[simp] theorem tbytes_100 : tbytes Try.prog 100 = some 8 := by kernel_rfl
@[simp] theorem zcells_100 : zcells Try.prog 100 = some [.sc (.nilFunc)] := by kernel_rfl
@[simp] theorem tzero_100 : tzero Try.prog 100 = some (.nilFunc) := by kernel_rfl
@[simp] theorem azero_100 : azero Try.prog 100 = some (.sc (.nilFunc)) := by kernel_rfl
@[simp] theorem tagg_101 : tagg Try.prog 101 = some false := by kernel_rfl
@[simp] theorem tsz_101 : tsz Try.prog 101 = some 1 := by kernel_rfl
@[simp] theorem tbytes_101 : tbytes Try.prog 101 = some 8 := by kernel_rfl
@[simp] theorem zcells_101 : zcells Try.prog 101 = some [.sc (.pointer none)] := by kernel_rfl
@[simp] theorem tzero_101 : tzero Try.prog 101 = some (.pointer none) := by kernel_rfl
@[simp] theorem azero_101 : azero Try.prog 101 = some (.sc (.pointer none)) := by kernel_rfl
@[simp] theorem tagg_103 : tagg Try.prog 103 = some false := by kernel_rfl
@[simp] theorem tsz_103 : tsz Try.prog 103 = some 1 := by kernel_rfl
@[simp] theorem tbytes_103 : tbytes Try.prog 103 = some 8 := by kernel_rfl
@[simp] theorem zcells_103 : zcells Try.prog 103 = some [.sc (.nilFunc)] := by kernel_rfl
@[simp] theorem tzero_103 : tzero Try.prog 103 = some (.nilFunc) := by kernel_rfl
@[simp] theorem azero_103 : azero Try.prog 103 = some (.sc (.nilFunc)) := by kernel_rfl
@[simp] theorem tagg_104 : tagg Try.prog 104 = some false := by kernel_rfl
@[simp] theorem tsz_104 : tsz Try.prog 104 = some 1 := by kernel_rfl
@[simp] theorem tbytes_104 : tbytes Try.prog 104 = some 8 := by kernel_rfl
@[simp] theorem tmap_104 : tmap Try.prog 104 = some (3, 3) := by kernel_rfl
@[simp] theorem tkl_104 : tkl Try.prog 104 = some 1 := by kernel_rfl
@[simp] theorem zcells_104 : zcells Try.prog 104 = some [.sc (.map none)] := by kernel_rfl
@[simp] theorem tzero_104 : tzero Try.prog 104 = some (.map none) := by kernel_rfl
@[simp] theorem azero_104 : azero Try.prog 104 = some (.sc (.map none)) := by kernel_rfl
@[simp] theorem tagg_105 : tagg Try.prog 105 = some true := by kernel_rfl
@[simp] theorem tsz_105 : tsz Try.prog 105 = some 2 := by kernel_rfl
@[simp] theorem tbytes_105 : tbytes Try.prog 105 = some 32 := by kernel_rfl
@[simp] theorem tfield_105_0 : tfield Try.prog 105 0 = some 0 := by kernel_rfl
@[simp] theorem tfld_105_0 : tfld Try.prog 105 0 = some (0, false) := by kernel_rfl
@[simp] theorem tfield_105_1 : tfield Try.prog 105 1 = some 1 := by kernel_rfl
@[simp] theorem tfld_105_1 : tfld Try.prog 105 1 = some (1, false) := by kernel_rfl
@[simp] theorem tplaces_105 : tplaces Try.prog 105 = some fun i => [(0, 1), (1, 1)][i]? := by kernel_rfl
@[simp] theorem zcells_105 : zcells Try.prog 105 = some [.sc (.slice none 0 0), .sc (.map none)] := by kernel_rfl
@[simp] theorem tzero_105 : tzero Try.prog 105 = some (.agg #[.slice none 0 0, .map none]) := by kernel_rfl
@[simp] theorem azero_105 : azero Try.prog 105 = some (.ag [.sc (.slice none 0 0), .sc (.map none)]) := by kernel_rfl
@[simp] theorem tagg_106 : tagg Try.prog 106 = some true := by kernel_rfl
@[simp] theorem tsz_106 : tsz Try.prog 106 = some 2 := by kernel_rfl
@[simp] theorem tbytes_106 : tbytes Try.prog 106 = some 32 := by kernel_rfl
@[simp] theorem tfield_106_0 : tfield Try.prog 106 0 = some 0 := by kernel_rfl
@[simp] theorem tfld_106_0 : tfld Try.prog 106 0 = some (0, false) := by kernel_rfl
@[simp] theorem tfield_106_1 : tfield Try.prog 106 1 = some 1 := by kernel_rfl
@[simp] theorem tfld_106_1 : tfld Try.prog 106 1 = some (1, false) := by kernel_rfl
@[simp] theorem tplaces_106 : tplaces Try.prog 106 = some fun i => [(0, 1), (1, 1)][i]? := by kernel_rfl
@[simp] theorem zcells_106 : zcells Try.prog 106 = some [.sc (.slice none 0 0), .sc (.map none)] := by kernel_rfl
@[simp] theorem tzero_106 : tzero Try.prog 106 = some (.agg #[.slice none 0 0, .map none]) := by kernel_rfl
@[simp] theorem azero_106 : azero Try.prog 106 = some (.ag [.sc (.slice none 0 0), .sc (.map none)]) := by kernel_rfl
@[simp] theorem tagg_107 : tagg Try.prog 107 = some false := by kernel_rfl
@[simp] theorem tsz_107 : tsz Try.prog 107 = some 1 := by kernel_rfl
@[simp] theorem tbytes_107 : tbytes Try.prog 107 = some 8 := by kernel_rfl
@[simp] theorem zcells_107 : zcells Try.prog 107 = some [.sc (.nilFunc)] := by kernel_rfl
@[simp] theorem tzero_107 : tzero Try.prog 107 = some (.nilFunc) := by kernel_rfl
@[simp] theorem azero_107 : azero Try.prog 107 = some (.sc (.nilFunc)) := by kernel_rfl
@[simp] theorem tagg_108 : tagg Try.prog 108 = some false := by kernel_rfl
@[simp] theorem tsz_108 : tsz Try.prog 108 = some 1 := by kernel_rfl
@[simp] theorem tbytes_108 : tbytes Try.prog 108 = some 8 := by kernel_rfl
@[simp] theorem zcells_108 : zcells Try.prog 108 = some [.sc (.nilFunc)] := by kernel_rfl
@[simp] theorem tzero_108 : tzero Try.prog 108 = some (.nilFunc) := by kernel_rfl
@[simp] theorem azero_108 : azero Try.prog 108 = some (.sc (.nilFunc)) := by kernel_rfl
@[simp] theorem tagg_109 : tagg Try.prog 109 = some false := by kernel_rfl
@[simp] theorem tsz_109 : tsz Try.prog 109 = some 1 := by kernel_rfl
@[simp] theorem tbytes_109 : tbytes Try.prog 109 = some 8 := by kernel_rfl
@[simp] theorem zcells_109 : zcells Try.prog 109 = some [.sc (.nilFunc)] := by kernel_rfl
@[simp] theorem tzero_109 : tzero Try.prog 109 = some (.nilFunc) := by kernel_rfl
@[simp] theorem azero_109 : azero Try.prog 109 = some (.sc (.nilFunc)) := by kernel_rfl
@[simp] theorem tagg_110 : tagg Try.prog 110 = some false := by kernel_rfl
@[simp] theorem tsz_110 : tsz Try.prog 110 = some 1 := by kernel_rfl
@[simp] theorem tbytes_110 : tbytes Try.prog 110 = some 8 := by kernel_rfl
@[simp] theorem zcells_110 : zcells Try.prog 110 = some [.sc (.nilFunc)] := by kernel_rfl
@[simp] theorem tzero_110 : tzero Try.prog 110 = some (.nilFunc) := by kernel_rfl
@[simp] theorem azero_110 : azero Try.prog 110 = some (.sc (.nilFunc)) := by kernel_rfl
@[simp] theorem tagg_111 : tagg Try.prog 111 = some false := by kernel_rfl
@[simp] theorem tsz_111 : tsz Try.prog 111 = some 1 := by kernel_rfl
@[simp] theorem tbytes_111 : tbytes Try.prog 111 = some 8 := by kernel_rfl
@[simp] theorem zcells_111 : zcells Try.prog 111 = some [.sc (.nilFunc)] := by kernel_rfl
@[simp] theorem tzero_111 : tzero Try.prog 111 = some (.nilFunc) := by kernel_rfl
@[simp] theorem azero_111 : azero Try.prog 111 = some (.sc (.nilFunc)) := by kernel_rfl
@[simp] theorem tagg_112 : tagg Try.prog 112 = some false := by kernel_rfl
@[simp] theorem tsz_112 : tsz Try.prog 112 = some 1 := by kernel_rfl
@[simp] theorem tbytes_112 : tbytes Try.prog 112 = some 8 := by kernel_rfl
@[simp] theorem zcells_112 : zcells Try.prog 112 = some [.sc (.nilFunc)] := by kernel_rfl
@[simp] theorem tzero_112 : tzero Try.prog 112 = some (.nilFunc) := by kernel_rfl
@[simp] theorem azero_112 : azero Try.prog 112 = some (.sc (.nilFunc)) := by kernel_rfl
@[simp] theorem tagg_113 : tagg Try.prog 113 = some false := by kernel_rfl
@[simp] theorem tsz_113 : tsz Try.prog 113 = some 1 := by kernel_rfl
@[simp] theorem tbytes_113 : tbytes Try.prog 113 = some 8 := by kernel_rfl
@[simp] theorem zcells_113 : zcells Try.prog 113 = some [.sc (.nilFunc)] := by kernel_rfl
@[simp] theorem tzero_113 : tzero Try.prog 113 = some (.nilFunc) := by kernel_rfl
@[simp] theorem azero_113 : azero Try.prog 113 = some (.sc (.nilFunc)) := by kernel_rfl
@[simp] theorem tagg_114 : tagg Try.prog 114 = some false := by kernel_rfl
@[simp] theorem tsz_114 : tsz Try.prog 114 = some 1 := by kernel_rfl
@[simp] theorem tbytes_114 : tbytes Try.prog 114 = some 24 := by kernel_rfl
@[simp] theorem tslice_114 : tslice Try.prog 114 = some 4 := by kernel_rfl
@[simp] theorem zcells_114 : zcells Try.prog 114 = some [.sc (.slice none 0 0)] := by kernel_rfl
@[simp] theorem tzero_114 : tzero Try.prog 114 = some (.slice none 0 0) := by kernel_rfl
@[simp] theorem azero_114 : azero Try.prog 114 = some (.sc (.slice none 0 0)) := by kernel_rfl
@[simp] theorem tagg_115 : tagg Try.prog 115 = some false := by kernel_rfl
@[simp] theorem tsz_115 : tsz Try.prog 115 = some 1 := by kernel_rfl
@[simp] theorem tbytes_115 : tbytes Try.prog 115 = some 8 := by kernel_rfl
@[simp] theorem zcells_115 : zcells Try.prog 115 = some [.sc (.nilFunc)] := by kernel_rfl
@[simp] theorem tzero_115 : tzero Try.prog 115 = some (.nilFunc) := by kernel_rfl
@[simp] theorem azero_115 : azero Try.prog 115 = some (.sc (.nilFunc)) := by kernel_rfl
@[simp] theorem tagg_116 : tagg Try.prog 116 = some false := by kernel_rfl
@[simp] theorem tsz_116 : tsz Try.prog 116 = some 1 := by kernel_rfl
@[simp] theorem tbytes_116 : tbytes Try.prog 116 = some 8 := by kernel_rfl
@[simp] theorem zcells_116 : zcells Try.prog 116 = some [.sc (.nilFunc)] := by kernel_rfl
@[simp] theorem tzero_116 : tzero Try.prog 116 = some (.nilFunc) := by kernel_rfl
@[simp] theorem azero_116 : azero Try.prog 116 = some (.sc (.nilFunc)) := by kernel_rfl
@[simp] theorem tagg_117 : tagg Try.prog 117 = some true := by kernel_rfl
@[simp] theorem tsz_117 : tsz Try.prog 117 = some 2 := by kernel_rfl
@[simp] theorem tbytes_117 : tbytes Try.prog 117 = some 32 := by kernel_rfl
@[simp] theorem tfield_117_0 : tfield Try.prog 117 0 = some 0 := by kernel_rfl
@[simp] theorem tfld_117_0 : tfld Try.prog 117 0 = some (0, false) := by kernel_rfl
@[simp] theorem tfield_117_1 : tfield Try.prog 117 1 = some 1 := by kernel_rfl
@[simp] theorem tfld_117_1 : tfld Try.prog 117 1 = some (1, false) := by kernel_rfl
@[simp] theorem tplaces_117 : tplaces Try.prog 117 = some fun i => [(0, 1), (1, 1)][i]? := by kernel_rfl
@[simp] theorem zcells_117 : zcells Try.prog 117 = some [.sc (.slice none 0 0), .sc (.int .i64 0)] := by kernel_rfl
@[simp] theorem tzero_117 : tzero Try.prog 117 = some (.agg #[.slice none 0 0, .int .i64 0]) := by kernel_rfl
@[simp] theorem azero_117 : azero Try.prog 117 = some (.ag [.sc (.slice none 0 0), .sc (.int .i64 0)]) := by kernel_rfl
@[simp] theorem tagg_118 : tagg Try.prog 118 = some true := by kernel_rfl
@[simp] theorem tsz_118 : tsz Try.prog 118 = some 2 := by kernel_rfl
@[simp] theorem tbytes_118 : tbytes Try.prog 118 = some 32 := by kernel_rfl
@[simp] theorem tfield_118_0 : tfield Try.prog 118 0 = some 0 := by kernel_rfl
@[simp] theorem tfld_118_0 : tfld Try.prog 118 0 = some (0, false) := by kernel_rfl
@[simp] theorem tfield_118_1 : tfield Try.prog 118 1 = some 1 := by kernel_rfl
@[simp] theorem tfld_118_1 : tfld Try.prog 118 1 = some (1, false) := by kernel_rfl
@[simp] theorem tplaces_118 : tplaces Try.prog 118 = some fun i => [(0, 1), (1, 1)][i]? := by kernel_rfl
@[simp] theorem zcells_118 : zcells Try.prog 118 = some [.sc (.slice none 0 0), .sc (.int .i64 0)] := by kernel_rfl
@[simp] theorem tzero_118 : tzero Try.prog 118 = some (.agg #[.slice none 0 0, .int .i64 0]) := by kernel_rfl
@[simp] theorem azero_118 : azero Try.prog 118 = some (.ag [.sc (.slice none 0 0), .sc (.int .i64 0)]) := by kernel_rfl
@[simp] theorem tagg_119 : tagg Try.prog 119 = some false := by kernel_rfl
@[simp] theorem tsz_119 : tsz Try.prog 119 = some 1 := by kernel_rfl
@[simp] theorem tbytes_119 : tbytes Try.prog 119 = some 8 := by kernel_rfl
@[simp] theorem tmap_119 : tmap Try.prog 119 = some (3, 118) := by kernel_rfl
@[simp] theorem tkl_119 : tkl Try.prog 119 = some 1 := by kernel_rfl
@[simp] theorem zcells_119 : zcells Try.prog 119 = some [.sc (.map none)] := by kernel_rfl
@[simp] theorem tzero_119 : tzero Try.prog 119 = some (.map none) := by kernel_rfl
@[simp] theorem azero_119 : azero Try.prog 119 = some (.sc (.map none)) := by kernel_rfl
@[simp] theorem tagg_120 : tagg Try.prog 120 = some false := by kernel_rfl
@[simp] theorem tsz_120 : tsz Try.prog 120 = some 1 := by kernel_rfl
@[simp] theorem tbytes_120 : tbytes Try.prog 120 = some 8 := by kernel_rfl
@[simp] theorem zcells_120 : zcells Try.prog 120 = some [.sc (.nilFunc)] := by kernel_rfl
@[simp] theorem tzero_120 : tzero Try.prog 120 = some (.nilFunc) := by kernel_rfl
@[simp] theorem azero_120 : azero Try.prog 120 = some (.sc (.nilFunc)) := by kernel_rfl
@[simp] theorem tagg_122 : tagg Try.prog 122 = some false := by kernel_rfl
@[simp] theorem tsz_122 : tsz Try.prog 122 = some 1 := by kernel_rfl
@[simp] theorem tbytes_122 : tbytes Try.prog 122 = some 8 := by kernel_rfl
@[simp] theorem zcells_122 : zcells Try.prog 122 = some [.sc (.nilFunc)] := by kernel_rfl
@[simp] theorem tzero_122 : tzero Try.prog 122 = some (.nilFunc) := by kernel_rfl
@[simp] theorem azero_122 : azero Try.prog 122 = some (.sc (.nilFunc)) := by kernel_rfl
@[simp] theorem tagg_123 : tagg Try.prog 123 = some false := by kernel_rfl
@[simp] theorem tsz_123 : tsz Try.prog 123 = some 1 := by kernel_rfl
@[simp] theorem tbytes_123 : tbytes Try.prog 123 = some 8 := by kernel_rfl
@[simp] theorem zcells_123 : zcells Try.prog 123 = some [.sc (.nilFunc)] := by kernel_rfl
@[simp] theorem tzero_123 : tzero Try.prog 123 = some (.nilFunc) := by kernel_rfl
@[simp] theorem azero_123 : azero Try.prog 123 = some (.sc (.nilFunc)) := by kernel_rfl
@[simp] theorem tagg_124 : tagg Try.prog 124 = some false := by kernel_rfl
@[simp] theorem tsz_124 : tsz Try.prog 124 = some 1 := by kernel_rfl
@[simp] theorem tbytes_124 : tbytes Try.prog 124 = some 8 := by kernel_rfl
@[simp] theorem zcells_124 : zcells Try.prog 124 = some [.sc (.nilFunc)] := by kernel_rfl
@[simp] theorem tzero_124 : tzero Try.prog 124 = some (.nilFunc) := by kernel_rfl
@[simp] theorem azero_124 : azero Try.prog 124 = some (.sc (.nilFunc)) := by kernel_rfl
@[simp] theorem tagg_125 : tagg Try.prog 125 = some false := by kernel_rfl
@[simp] theorem tsz_125 : tsz Try.prog 125 = some 1 := by kernel_rfl
@[simp] theorem tbytes_125 : tbytes Try.prog 125 = some 8 := by kernel_rfl
@[simp] theorem zcells_125 : zcells Try.prog 125 = some [.sc (.nilFunc)] := by kernel_rfl
@[simp] theorem tzero_125 : tzero Try.prog 125 = some (.nilFunc) := by kernel_rfl
@[simp] theorem azero_125 : azero Try.prog 125 = some (.sc (.nilFunc)) := by kernel_rfl
@[simp] theorem tagg_126 : tagg Try.prog 126 = some false := by kernel_rfl
@[simp] theorem tsz_126 : tsz Try.prog 126 = some 1 := by kernel_rfl
@[simp] theorem tbytes_126 : tbytes Try.prog 126 = some 8 := by kernel_rfl
@[simp] theorem zcells_126 : zcells Try.prog 126 = some [.sc (.nilFunc)] := by kernel_rfl
@[simp] theorem tzero_126 : tzero Try.prog 126 = some (.nilFunc) := by kernel_rfl
@[simp] theorem azero_126 : azero Try.prog 126 = some (.sc (.nilFunc)) := by kernel_rfl
@[simp] theorem tagg_127 : tagg Try.prog 127 = some false := by kernel_rfl
@[simp] theorem tsz_127 : tsz Try.prog 127 = some 1 := by kernel_rfl
@[simp] theorem tbytes_127 : tbytes Try.prog 127 = some 8 := by kernel_rfl
@[simp] theorem zcells_127 : zcells Try.prog 127 = some [.sc (.nilFunc)] := by kernel_rfl
@[simp] theorem tzero_127 : tzero Try.prog 127 = some (.nilFunc) := by kernel_rfl
@[simp] theorem azero_127 : azero Try.prog 127 = some (.sc (.nilFunc)) := by kernel_rfl
@[simp] theorem tagg_128 : tagg Try.prog 128 = some false := by kernel_rfl
@[simp] theorem tsz_128 : tsz Try.prog 128 = some 1 := by kernel_rfl
@[simp] theorem tbytes_128 : tbytes Try.prog 128 = some 8 := by kernel_rfl
@[simp] theorem zcells_128 : zcells Try.prog 128 = some [.sc (.nilFunc)] := by kernel_rfl
@[simp] theorem tzero_128 : tzero Try.prog 128 = some (.nilFunc) := by kernel_rfl
@[simp] theorem azero_128 : azero Try.prog 128 = some (.sc (.nilFunc)) := by kernel_rfl
@[simp] theorem tagg_129 : tagg Try.prog 129 = some false := by kernel_rfl
@[simp] theorem tsz_129 : tsz Try.prog 129 = some 1 := by kernel_rfl
@[simp] theorem tbytes_129 : tbytes Try.prog 129 = some 8 := by kernel_rfl
@[simp] theorem zcells_129 : zcells Try.prog 129 = some [.sc (.nilFunc)] := by kernel_rfl
@[simp] theorem tzero_129 : tzero Try.prog 129 = some (.nilFunc) := by kernel_rfl
@[simp] theorem azero_129 : azero Try.prog 129 = some (.sc (.nilFunc)) := by kernel_rfl
@[simp] theorem tagg_130 : tagg Try.prog 130 = some false := by kernel_rfl
@[simp] theorem tsz_130 : tsz Try.prog 130 = some 1 := by kernel_rfl
@[simp] theorem tbytes_130 : tbytes Try.prog 130 = some 8 := by kernel_rfl
@[simp] theorem zcells_130 : zcells Try.prog 130 = some [.sc (.nilFunc)] := by kernel_rfl
@[simp] theorem tzero_130 : tzero Try.prog 130 = some (.nilFunc) := by kernel_rfl
@[simp] theorem azero_130 : azero Try.prog 130 = some (.sc (.nilFunc)) := by kernel_rfl
@[simp] theorem tagg_131 : tagg Try.prog 131 = some false := by kernel_rfl
@[simp] theorem tsz_131 : tsz Try.prog 131 = some 1 := by kernel_rfl
@[simp] theorem tbytes_131 : tbytes Try.prog 131 = some 8 := by kernel_rfl
@[simp] theorem zcells_131 : zcells Try.prog 131 = some [.sc (.nilFunc)] := by kernel_rfl
@[simp] theorem tzero_131 : tzero Try.prog 131 = some (.nilFunc) := by kernel_rfl
@[simp] theorem azero_131 : azero Try.prog 131 = some (.sc (.nilFunc)) := by kernel_rfl
@[simp] theorem tagg_132 : tagg Try.prog 132 = some false := by kernel_rfl
@[simp] theorem tsz_132 : tsz Try.prog 132 = some 1 := by kernel_rfl
@[simp] theorem tbytes_132 : tbytes Try.prog 132 = some 8 := by kernel_rfl
@[simp] theorem zcells_132 : zcells Try.prog 132 = some [.sc (.nilFunc)] := by kernel_rfl
@[simp] theorem tzero_132 : tzero Try.prog 132 = some (.nilFunc) := by kernel_rfl
@[simp] theorem azero_132 : azero Try.prog 132 = some (.sc (.nilFunc)) := by kernel_rfl
@[simp] theorem tagg_133 : tagg Try.prog 133 = some false := by kernel_rfl
@[simp] theorem tsz_133 : tsz Try.prog 133 = some 1 := by kernel_rfl
@[simp] theorem tbytes_133 : tbytes Try.prog 133 = some 8 := by kernel_rfl
@[simp] theorem zcells_133 : zcells Try.prog 133 = some [.sc (.nilFunc)] := by kernel_rfl
@[simp] theorem tzero_133 : tzero Try.prog 133 = some (.nilFunc) := by kernel_rfl
@[simp] theorem azero_133 : azero Try.prog 133 = some (.sc (.nilFunc)) := by kernel_rfl
@[simp] theorem tagg_134 : tagg Try.prog 134 = some false := by kernel_rfl
@[simp] theorem tsz_134 : tsz Try.prog 134 = some 1 := by kernel_rfl
@[simp] theorem tbytes_134 : tbytes Try.prog 134 = some 8 := by kernel_rfl
@[simp] theorem zcells_134 : zcells Try.prog 134 = some [.sc (.nilFunc)] := by kernel_rfl
@[simp] theorem tzero_134 : tzero Try.prog 134 = some (.nilFunc) := by kernel_rfl
@[simp] theorem azero_134 : azero Try.prog 134 = some (.sc (.nilFunc)) := by kernel_rfl
@[simp] theorem tagg_135 : tagg Try.prog 135 = some false := by kernel_rfl
@[simp] theorem tsz_135 : tsz Try.prog 135 = some 1 := by kernel_rfl
@[simp] theorem tbytes_135 : tbytes Try.prog 135 = some 8 := by kernel_rfl
@[simp] theorem zcells_135 : zcells Try.prog 135 = some [.sc (.nilFunc)] := by kernel_rfl
@[simp] theorem tzero_135 : tzero Try.prog 135 = some (.nilFunc) := by kernel_rfl
@[simp] theorem azero_135 : azero Try.prog 135 = some (.sc (.nilFunc)) := by kernel_rfl
@[simp] theorem tagg_136 : tagg Try.prog 136 = some false := by kernel_rfl
@[simp] theorem tsz_136 : tsz Try.prog 136 = some 1 := by kernel_rfl
@[simp] theorem tbytes_136 : tbytes Try.prog 136 = some 8 := by kernel_rfl
@[simp] theorem zcells_136 : zcells Try.prog 136 = some [.sc (.nilFunc)] := by kernel_rfl
@[simp] theorem tzero_136 : tzero Try.prog 136 = some (.nilFunc) := by kernel_rfl
@[simp] theorem azero_136 : azero Try.prog 136 = some (.sc (.nilFunc)) := by kernel_rfl
@[simp] theorem tagg_137 : tagg Try.prog 137 = some false := by kernel_rfl
@[simp] theorem tsz_137 : tsz Try.prog 137 = some 1 := by kernel_rfl
@[simp] theorem tbytes_137 : tbytes Try.prog 137 = some 8 := by kernel_rfl
@[simp] theorem zcells_137 : zcells Try.prog 137 = some [.sc (.nilFunc)] := by kernel_rfl
@[simp] theorem tzero_137 : tzero Try.prog 137 = some (.nilFunc) := by kernel_rfl
@[simp] theorem azero_137 : azero Try.prog 137 = some (.sc (.nilFunc)) := by kernel_rfl
@[simp] theorem tagg_138 : tagg Try.prog 138 = some false := by kernel_rfl
@[simp] theorem tsz_138 : tsz Try.prog 138 = some 1 := by kernel_rfl
@[simp] theorem tbytes_138 : tbytes Try.prog 138 = some 8 := by kernel_rfl
@[simp] theorem zcells_138 : zcells Try.prog 138 = some [.sc (.nilFunc)] := by kernel_rfl
@[simp] theorem tzero_138 : tzero Try.prog 138 = some (.nilFunc) := by kernel_rfl
@[simp] theorem azero_138 : azero Try.prog 138 = some (.sc (.nilFunc)) := by kernel_rfl
@[simp] theorem tagg_139 : tagg Try.prog 139 = some false := by kernel_rfl
@[simp] theorem tsz_139 : tsz Try.prog 139 = some 1 := by kernel_rfl
@[simp] theorem tbytes_139 : tbytes Try.prog 139 = some 24 := by kernel_rfl
@[simp] theorem tslice_139 : tslice Try.prog 139 = some 147 := by kernel_rfl
@[simp] theorem zcells_139 : zcells Try.prog 139 = some [.sc (.slice none 0 0)] := by kernel_rfl
@[simp] theorem tzero_139 : tzero Try.prog 139 = some (.slice none 0 0) := by kernel_rfl
@[simp] theorem azero_139 : azero Try.prog 139 = some (.sc (.slice none 0 0)) := by kernel_rfl
@[simp] theorem tagg_141 : tagg Try.prog 141 = some false := by kernel_rfl
@[simp] theorem tsz_141 : tsz Try.prog 141 = some 1 := by kernel_rfl
@[simp] theorem tbytes_141 : tbytes Try.prog 141 = some 8 := by kernel_rfl
@[simp] theorem zcells_141 : zcells Try.prog 141 = some [.sc (.nilFunc)] := by kernel_rfl
@[simp] theorem tzero_141 : tzero Try.prog 141 = some (.nilFunc) := by kernel_rfl
@[simp] theorem azero_141 : azero Try.prog 141 = some (.sc (.nilFunc)) := by kernel_rfl
@[simp] theorem tagg_142 : tagg Try.prog 142 = some true := by kernel_rfl
@[simp] theorem tsz_142 : tsz Try.prog 142 = some 3 := by kernel_rfl
@[simp] theorem tbytes_142 : tbytes Try.prog 142 = some 24 := by kernel_rfl
@[simp] theorem tfield_142_0 : tfield Try.prog 142 0 = some 0 := by kernel_rfl
@[simp] theorem tfld_142_0 : tfld Try.prog 142 0 = some (0, false) := by kernel_rfl
@[simp] theorem tfield_142_1 : tfield Try.prog 142 1 = some 1 := by kernel_rfl
@[simp] theorem tfld_142_1 : tfld Try.prog 142 1 = some (1, false) := by kernel_rfl
@[simp] theorem tfield_142_2 : tfield Try.prog 142 2 = some 2 := by kernel_rfl
@[simp] theorem tfld_142_2 : tfld Try.prog 142 2 = some (2, false) := by kernel_rfl
@[simp] theorem tplaces_142 : tplaces Try.prog 142 = some fun i => [(0, 1), (1, 1), (2, 1)][i]? := by kernel_rfl
@[simp] theorem zcells_142 : zcells Try.prog 142 = some [.sc (.int .i64 0), .sc (.int .i64 0), .sc (.int .i64 0)] := by kernel_rfl
@[simp] theorem tzero_142 : tzero Try.prog 142 = some (.agg #[.int .i64 0, .int .i64 0, .int .i64 0]) := by kernel_rfl
@[simp] theorem azero_142 : azero Try.prog 142 = some (.ag [.sc (.int .i64 0), .sc (.int .i64 0), .sc (.int .i64 0)]) := by kernel_rfl
@[simp] theorem tagg_143 : tagg Try.prog 143 = some true := by kernel_rfl
@[simp] theorem tsz_143 : tsz Try.prog 143 = some 3 := by kernel_rfl
@[simp] theorem tbytes_143 : tbytes Try.prog 143 = some 24 := by kernel_rfl
@[simp] theorem tfield_143_0 : tfield Try.prog 143 0 = some 0 := by kernel_rfl
@[simp] theorem tfld_143_0 : tfld Try.prog 143 0 = some (0, false) := by kernel_rfl
@[simp] theorem tfield_143_1 : tfield Try.prog 143 1 = some 1 := by kernel_rfl
@[simp] theorem tfld_143_1 : tfld Try.prog 143 1 = some (1, false) := by kernel_rfl
@[simp] theorem tfield_143_2 : tfield Try.prog 143 2 = some 2 := by kernel_rfl
@[simp] theorem tfld_143_2 : tfld Try.prog 143 2 = some (2, false) := by kernel_rfl
@[simp] theorem tplaces_143 : tplaces Try.prog 143 = some fun i => [(0, 1), (1, 1), (2, 1)][i]? := by kernel_rfl
@[simp] theorem zcells_143 : zcells Try.prog 143 = some [.sc (.int .i64 0), .sc (.int .i64 0), .sc (.int .i64 0)] := by kernel_rfl
@[simp] theorem tzero_143 : tzero Try.prog 143 = some (.agg #[.int .i64 0, .int .i64 0, .int .i64 0]) := by kernel_rfl
@[simp] theorem azero_143 : azero Try.prog 143 = some (.ag [.sc (.int .i64 0), .sc (.int .i64 0), .sc (.int .i64 0)]) := by kernel_rfl
@[simp] theorem tagg_144 : tagg Try.prog 144 = some false := by kernel_rfl
@[simp] theorem tsz_144 : tsz Try.prog 144 = some 1 := by kernel_rfl
@[simp] theorem tbytes_144 : tbytes Try.prog 144 = some 24 := by kernel_rfl
@[simp] theorem tslice_144 : tslice Try.prog 144 = some 143 := by kernel_rfl
@[simp] theorem zcells_144 : zcells Try.prog 144 = some [.sc (.slice none 0 0)] := by kernel_rfl
@[simp] theorem tzero_144 : tzero Try.prog 144 = some (.slice none 0 0) := by kernel_rfl
@[simp] theorem azero_144 : azero Try.prog 144 = some (.sc (.slice none 0 0)) := by kernel_rfl
@[simp] theorem tagg_145 : tagg Try.prog 145 = some false := by kernel_rfl
@[simp] theorem tsz_145 : tsz Try.prog 145 = some 1 := by kernel_rfl
@[simp] theorem tbytes_145 : tbytes Try.prog 145 = some 8 := by kernel_rfl
@[simp] theorem zcells_145 : zcells Try.prog 145 = some [.sc (.nilFunc)] := by kernel_rfl
@[simp] theorem tzero_145 : tzero Try.prog 145 = some (.nilFunc) := by kernel_rfl
@[simp] theorem azero_145 : azero Try.prog 145 = some (.sc (.nilFunc)) := by kernel_rfl
@[simp] theorem tagg_146 : tagg Try.prog 146 = some true := by kernel_rfl
@[simp] theorem tsz_146 : tsz Try.prog 146 = some 5 := by kernel_rfl
@[simp] theorem tbytes_146 : tbytes Try.prog 146 = some 40 := by kernel_rfl
@[simp] theorem tfield_146_0 : tfield Try.prog 146 0 = some 0 := by kernel_rfl
@[simp] theorem tfld_146_0 : tfld Try.prog 146 0 = some (0, false) := by kernel_rfl
@[simp] theorem tfield_146_1 : tfield Try.prog 146 1 = some 1 := by kernel_rfl
@[simp] theorem tfld_146_1 : tfld Try.prog 146 1 = some (1, false) := by kernel_rfl
@[simp] theorem tfield_146_2 : tfield Try.prog 146 2 = some 2 := by kernel_rfl
@[simp] theorem tfld_146_2 : tfld Try.prog 146 2 = some (2, false) := by kernel_rfl
@[simp] theorem tfield_146_3 : tfield Try.prog 146 3 = some 3 := by kernel_rfl
@[simp] theorem tfld_146_3 : tfld Try.prog 146 3 = some (3, false) := by kernel_rfl
@[simp] theorem tfield_146_4 : tfield Try.prog 146 4 = some 4 := by kernel_rfl
@[simp] theorem tfld_146_4 : tfld Try.prog 146 4 = some (4, false) := by kernel_rfl
@[simp] theorem tplaces_146 : tplaces Try.prog 146 = some fun i => [(0, 1), (1, 1), (2, 1), (3, 1), (4, 1)][i]? := by kernel_rfl
@[simp] theorem zcells_146 : zcells Try.prog 146 = some [.sc (.int .i64 0), .sc (.int .i64 0), .sc (.int .i64 0), .sc (.int .i64 0), .sc (.int .i64 0)] := by kernel_rfl
@[simp] theorem tzero_146 : tzero Try.prog 146 = some (.agg #[.int .i64 0, .int .i64 0, .int .i64 0, .int .i64 0, .int .i64 0]) := by kernel_rfl
@[simp] theorem azero_146 : azero Try.prog 146 = some (.ag [.sc (.int .i64 0), .sc (.int .i64 0), .sc (.int .i64 0), .sc (.int .i64 0), .sc (.int .i64 0)]) := by kernel_rfl
@[simp] theorem tagg_147 : tagg Try.prog 147 = some true := by kernel_rfl
@[simp] theorem tsz_147 : tsz Try.prog 147 = some 5 := by kernel_rfl
@[simp] theorem tbytes_147 : tbytes Try.prog 147 = some 40 := by kernel_rfl
@[simp] theorem tfield_147_0 : tfield Try.prog 147 0 = some 0 := by kernel_rfl
@[simp] theorem tfld_147_0 : tfld Try.prog 147 0 = some (0, false) := by kernel_rfl
@[simp] theorem tfield_147_1 : tfield Try.prog 147 1 = some 1 := by kernel_rfl
@[simp] theorem tfld_147_1 : tfld Try.prog 147 1 = some (1, false) := by kernel_rfl
@[simp] theorem tfield_147_2 : tfield Try.prog 147 2 = some 2 := by kernel_rfl
@[simp] theorem tfld_147_2 : tfld Try.prog 147 2 = some (2, false) := by kernel_rfl
@[simp] theorem tfield_147_3 : tfield Try.prog 147 3 = some 3 := by kernel_rfl
@[simp] theorem tfld_147_3 : tfld Try.prog 147 3 = some (3, false) := by kernel_rfl
@[simp] theorem tfield_147_4 : tfield Try.prog 147 4 = some 4 := by kernel_rfl
@[simp] theorem tfld_147_4 : tfld Try.prog 147 4 = some (4, false) := by kernel_rfl
@[simp] theorem tplaces_147 : tplaces Try.prog 147 = some fun i => [(0, 1), (1, 1), (2, 1), (3, 1), (4, 1)][i]? := by kernel_rfl
@[simp] theorem zcells_147 : zcells Try.prog 147 = some [.sc (.int .i64 0), .sc (.int .i64 0), .sc (.int .i64 0), .sc (.int .i64 0), .sc (.int .i64 0)] := by kernel_rfl
@[simp] theorem tzero_147 : tzero Try.prog 147 = some (.agg #[.int .i64 0, .int .i64 0, .int .i64 0, .int .i64 0, .int .i64 0]) := by kernel_rfl
@[simp] theorem azero_147 : azero Try.prog 147 = some (.ag [.sc (.int .i64 0), .sc (.int .i64 0), .sc (.int .i64 0), .sc (.int .i64 0), .sc (.int .i64 0)]) := by kernel_rfl
@[simp] theorem tagg_148 : tagg Try.prog 148 = some false := by kernel_rfl
@[simp] theorem tsz_148 : tsz Try.prog 148 = some 1 := by kernel_rfl
@[simp] theorem tbytes_148 : tbytes Try.prog 148 = some 8 := by kernel_rfl
@[simp] theorem zcells_148 : zcells Try.prog 148 = some [.sc (.nilFunc)] := by kernel_rfl
@[simp] theorem tzero_148 : tzero Try.prog 148 = some (.nilFunc) := by kernel_rfl
@[simp] theorem azero_148 : azero Try.prog 148 = some (.sc (.nilFunc)) := by kernel_rfl
@[simp] theorem tagg_149 : tagg Try.prog 149 = some false := by kernel_rfl
@[simp] theorem tsz_149 : tsz Try.prog 149 = some 1 := by kernel_rfl
@[simp] theorem tbytes_149 : tbytes Try.prog 149 = some 8 := by kernel_rfl
@[simp] theorem zcells_149 : zcells Try.prog 149 = some [.sc (.nilFunc)] := by kernel_rfl
@[simp] theorem tzero_149 : tzero Try.prog 149 = some (.nilFunc) := by kernel_rfl
@[simp] theorem azero_149 : azero Try.prog 149 = some (.sc (.nilFunc)) := by kernel_rfl
@[simp] theorem tagg_150 : tagg Try.prog 150 = some false := by kernel_rfl
@[simp] theorem tsz_150 : tsz Try.prog 150 = some 1 := by kernel_rfl
@[simp] theorem tbytes_150 : tbytes Try.prog 150 = some 8 := by kernel_rfl
@[simp] theorem zcells_150 : zcells Try.prog 150 = some [.sc (.nilFunc)] := by kernel_rfl
@[simp] theorem tzero_150 : tzero Try.prog 150 = some (.nilFunc) := by kernel_rfl
@[simp] theorem azero_150 : azero Try.prog 150 = some (.sc (.nilFunc)) := by kernel_rfl
@[simp] theorem tagg_151 : tagg Try.prog 151 = some false := by kernel_rfl
@[simp] theorem tsz_151 : tsz Try.prog 151 = some 1 := by kernel_rfl
@[simp] theorem tbytes_151 : tbytes Try.prog 151 = some 8 := by kernel_rfl
@[simp] theorem zcells_151 : zcells Try.prog 151 = some [.sc (.nilFunc)] := by kernel_rfl
@[simp] theorem tzero_151 : tzero Try.prog 151 = some (.nilFunc) := by kernel_rfl
@[simp] theorem azero_151 : azero Try.prog 151 = some (.sc (.nilFunc)) := by kernel_rfl
@[simp] theorem tagg_152 : tagg Try.prog 152 = some false := by kernel_rfl
@[simp] theorem tsz_152 : tsz Try.prog 152 = some 1 := by kernel_rfl
@[simp] theorem tbytes_152 : tbytes Try.prog 152 = some 8 := by kernel_rfl
@[simp] theorem zcells_152 : zcells Try.prog 152 = some [.sc (.nilFunc)] := by kernel_rfl
@[simp] theorem tzero_152 : tzero Try.prog 152 = some (.nilFunc) := by kernel_rfl
@[simp] theorem azero_152 : azero Try.prog 152 = some (.sc (.nilFunc)) := by kernel_rfl
@[simp] theorem tagg_153 : tagg Try.prog 153 = some true := by kernel_rfl
@[simp] theorem tsz_153 : tsz Try.prog 153 = some 2 := by kernel_rfl
@[simp] theorem tbytes_153 : tbytes Try.prog 153 = some 16 := by kernel_rfl
@[simp] theorem tfield_153_0 : tfield Try.prog 153 0 = some 0 := by kernel_rfl
@[simp] theorem tfld_153_0 : tfld Try.prog 153 0 = some (0, false) := by kernel_rfl
@[simp] theorem tfield_153_1 : tfield Try.prog 153 1 = some 1 := by kernel_rfl
@[simp] theorem tfld_153_1 : tfld Try.prog 153 1 = some (1, false) := by kernel_rfl
@[simp] theorem tplaces_153 : tplaces Try.prog 153 = some fun i => [(0, 1), (1, 1)][i]? := by kernel_rfl
@[simp] theorem zcells_153 : zcells Try.prog 153 = some [.sc (.int .i64 0), .sc (.int .i64 0)] := by kernel_rfl
@[simp] theorem tzero_153 : tzero Try.prog 153 = some (.agg #[.int .i64 0, .int .i64 0]) := by kernel_rfl
@[simp] theorem azero_153 : azero Try.prog 153 = some (.ag [.sc (.int .i64 0), .sc (.int .i64 0)]) := by kernel_rfl
@[simp] theorem tagg_154 : tagg Try.prog 154 = some true := by kernel_rfl
@[simp] theorem tsz_154 : tsz Try.prog 154 = some 2 := by kernel_rfl
@[simp] theorem tbytes_154 : tbytes Try.prog 154 = some 16 := by kernel_rfl
@[simp] theorem tfield_154_0 : tfield Try.prog 154 0 = some 0 := by kernel_rfl
@[simp] theorem tfld_154_0 : tfld Try.prog 154 0 = some (0, false) := by kernel_rfl
@[simp] theorem tfield_154_1 : tfield Try.prog 154 1 = some 1 := by kernel_rfl
@[simp] theorem tfld_154_1 : tfld Try.prog 154 1 = some (1, false) := by kernel_rfl
@[simp] theorem tplaces_154 : tplaces Try.prog 154 = some fun i => [(0, 1), (1, 1)][i]? := by kernel_rfl
@[simp] theorem zcells_154 : zcells Try.prog 154 = some [.sc (.int .i64 0), .sc (.int .i64 0)] := by kernel_rfl
@[simp] theorem tzero_154 : tzero Try.prog 154 = some (.agg #[.int .i64 0, .int .i64 0]) := by kernel_rfl
@[simp] theorem azero_154 : azero Try.prog 154 = some (.ag [.sc (.int .i64 0), .sc (.int .i64 0)]) := by kernel_rfl
@[simp] theorem tagg_155 : tagg Try.prog 155 = some false := by kernel_rfl
@[simp] theorem tsz_155 : tsz Try.prog 155 = some 1 := by kernel_rfl
@[simp] theorem tbytes_155 : tbytes Try.prog 155 = some 8 := by kernel_rfl
@[simp] theorem zcells_155 : zcells Try.prog 155 = some [.sc (.nilFunc)] := by kernel_rfl
@[simp] theorem tzero_155 : tzero Try.prog 155 = some (.nilFunc) := by kernel_rfl
@[simp] theorem azero_155 : azero Try.prog 155 = some (.sc (.nilFunc)) := by kernel_rfl
@[simp] theorem tagg_156 : tagg Try.prog 156 = some true := by kernel_rfl
@[simp] theorem tsz_156 : tsz Try.prog 156 = some 2 := by kernel_rfl
@[simp] theorem tbytes_156 : tbytes Try.prog 156 = some 32 := by kernel_rfl
@[simp] theorem tfield_156_0 : tfield Try.prog 156 0 = some 0 := by kernel_rfl
@[simp] theorem tfld_156_0 : tfld Try.prog 156 0 = some (0, false) := by kernel_rfl
@[simp] theorem tfield_156_1 : tfield Try.prog 156 1 = some 1 := by kernel_rfl
@[simp] theorem tfld_156_1 : tfld Try.prog 156 1 = some (1, false) := by kernel_rfl
@[simp] theorem tplaces_156 : tplaces Try.prog 156 = some fun i => [(0, 1), (1, 1)][i]? := by kernel_rfl
@[simp] theorem zcells_156 : zcells Try.prog 156 = some [.sc (.slice none 0 0), .sc (.nilFunc)] := by kernel_rfl
@[simp] theorem tzero_156 : tzero Try.prog 156 = some (.agg #[.slice none 0 0, .nilFunc]) := by kernel_rfl
@[simp] theorem azero_156 : azero Try.prog 156 = some (.ag [.sc (.slice none 0 0), .sc (.nilFunc)]) := by kernel_rfl
@[simp] theorem tagg_157 : tagg Try.prog 157 = some true := by kernel_rfl
@[simp] theorem tsz_157 : tsz Try.prog 157 = some 2 := by kernel_rfl
@[simp] theorem tbytes_157 : tbytes Try.prog 157 = some 32 := by kernel_rfl
@[simp] theorem tfield_157_0 : tfield Try.prog 157 0 = some 0 := by kernel_rfl
@[simp] theorem tfld_157_0 : tfld Try.prog 157 0 = some (0, false) := by kernel_rfl
@[simp] theorem tfield_157_1 : tfield Try.prog 157 1 = some 1 := by kernel_rfl
@[simp] theorem tfld_157_1 : tfld Try.prog 157 1 = some (1, false) := by kernel_rfl
@[simp] theorem tplaces_157 : tplaces Try.prog 157 = some fun i => [(0, 1), (1, 1)][i]? := by kernel_rfl
@[simp] theorem zcells_157 : zcells Try.prog 157 = some [.sc (.slice none 0 0), .sc (.nilFunc)] := by kernel_rfl
@[simp] theorem tzero_157 : tzero Try.prog 157 = some (.agg #[.slice none 0 0, .nilFunc]) := by kernel_rfl
@[simp] theorem azero_157 : azero Try.prog 157 = some (.ag [.sc (.slice none 0 0), .sc (.nilFunc)]) := by kernel_rfl
@[simp] theorem tagg_158 : tagg Try.prog 158 = some false := by kernel_rfl
@[simp] theorem tsz_158 : tsz Try.prog 158 = some 1 := by kernel_rfl
@[simp] theorem tbytes_158 : tbytes Try.prog 158 = some 8 := by kernel_rfl
@[simp] theorem zcells_158 : zcells Try.prog 158 = some [.sc (.nilFunc)] := by kernel_rfl
@[simp] theorem tzero_158 : tzero Try.prog 158 = some (.nilFunc) := by kernel_rfl
@[simp] theorem azero_158 : azero Try.prog 158 = some (.sc (.nilFunc)) := by kernel_rfl
@[simp] theorem tagg_159 : tagg Try.prog 159 = some false := by kernel_rfl
@[simp] theorem tsz_159 : tsz Try.prog 159 = some 1 := by kernel_rfl
@[simp] theorem tbytes_159 : tbytes Try.prog 159 = some 8 := by kernel_rfl
@[simp] theorem zcells_159 : zcells Try.prog 159 = some [.sc (.nilFunc)] := by kernel_rfl
@[simp] theorem tzero_159 : tzero Try.prog 159 = some (.nilFunc) := by kernel_rfl
@[simp] theorem azero_159 : azero Try.prog 159 = some (.sc (.nilFunc)) := by kernel_rfl
@[simp] theorem tagg_160 : tagg Try.prog 160 = some false := by kernel_rfl
@[simp] theorem tsz_160 : tsz Try.prog 160 = some 1 := by kernel_rfl
@[simp] theorem tbytes_160 : tbytes Try.prog 160 = some 8 := by kernel_rfl
@[simp] theorem zcells_160 : zcells Try.prog 160 = some [.sc (.nilFunc)] := by kernel_rfl
@[simp] theorem tzero_160 : tzero Try.prog 160 = some (.nilFunc) := by kernel_rfl
@[simp] theorem azero_160 : azero Try.prog 160 = some (.sc (.nilFunc)) := by kernel_rfl
@[simp] theorem tagg_161 : tagg Try.prog 161 = some false := by kernel_rfl
@[simp] theorem tsz_161 : tsz Try.prog 161 = some 1 := by kernel_rfl
@[simp] theorem tbytes_161 : tbytes Try.prog 161 = some 8 := by kernel_rfl
@[simp] theorem zcells_161 : zcells Try.prog 161 = some [.sc (.nilFunc)] := by kernel_rfl
@[simp] theorem tzero_161 : tzero Try.prog 161 = some (.nilFunc) := by kernel_rfl
@[simp] theorem azero_161 : azero Try.prog 161 = some (.sc (.nilFunc)) := by kernel_rfl
@[simp] theorem tagg_162 : tagg Try.prog 162 = some false := by kernel_rfl
@[simp] theorem tsz_162 : tsz Try.prog 162 = some 1 := by kernel_rfl
@[simp] theorem tbytes_162 : tbytes Try.prog 162 = some 8 := by kernel_rfl
@[simp] theorem zcells_162 : zcells Try.prog 162 = some [.sc (.nilFunc)] := by kernel_rfl
@[simp] theorem tzero_162 : tzero Try.prog 162 = some (.nilFunc) := by kernel_rfl
@[simp] theorem azero_162 : azero Try.prog 162 = some (.sc (.nilFunc)) := by kernel_rfl
@[simp] theorem tagg_163 : tagg Try.prog 163 = some false := by kernel_rfl
@[simp] theorem tsz_163 : tsz Try.prog 163 = some 1 := by kernel_rfl
@[simp] theorem tbytes_163 : tbytes Try.prog 163 = some 8 := by kernel_rfl
@[simp] theorem zcells_163 : zcells Try.prog 163 = some [.sc (.nilFunc)] := by kernel_rfl
@[simp] theorem tzero_163 : tzero Try.prog 163 = some (.nilFunc) := by kernel_rfl
@[simp] theorem azero_163 : azero Try.prog 163 = some (.sc (.nilFunc)) := by kernel_rfl
@[simp] theorem tagg_164 : tagg Try.prog 164 = some false := by kernel_rfl
@[simp] theorem tsz_164 : tsz Try.prog 164 = some 1 := by kernel_rfl
@[simp] theorem tbytes_164 : tbytes Try.prog 164 = some 8 := by kernel_rfl
@[simp] theorem zcells_164 : zcells Try.prog 164 = some [.sc (.pointer none)] := by kernel_rfl
@[simp] theorem tzero_164 : tzero Try.prog 164 = some (.pointer none) := by kernel_rfl
@[simp] theorem azero_164 : azero Try.prog 164 = some (.sc (.pointer none)) := by kernel_rfl
@[simp] theorem tagg_165 : tagg Try.prog 165 = some false := by kernel_rfl
@[simp] theorem tsz_165 : tsz Try.prog 165 = some 1 := by kernel_rfl
@[simp] theorem tbytes_165 : tbytes Try.prog 165 = some 8 := by kernel_rfl
@[simp] theorem zcells_165 : zcells Try.prog 165 = some [.sc (.nilFunc)] := by kernel_rfl
@[simp] theorem tzero_165 : tzero Try.prog 165 = some (.nilFunc) := by kernel_rfl
@[simp] theorem azero_165 : azero Try.prog 165 = some (.sc (.nilFunc)) := by kernel_rfl
@[simp] theorem tagg_166 : tagg Try.prog 166 = some false := by kernel_rfl
@[simp] theorem tsz_166 : tsz Try.prog 166 = some 1 := by kernel_rfl
@[simp] theorem tbytes_166 : tbytes Try.prog 166 = some 8 := by kernel_rfl
@[simp] theorem zcells_166 : zcells Try.prog 166 = some [.sc (.nilFunc)] := by kernel_rfl
@[simp] theorem tzero_166 : tzero Try.prog 166 = some (.nilFunc) := by kernel_rfl
@[simp] theorem azero_166 : azero Try.prog 166 = some (.sc (.nilFunc)) := by kernel_rfl
@[simp] theorem tagg_167 : tagg Try.prog 167 = some false := by kernel_rfl
@[simp] theorem tsz_167 : tsz Try.prog 167 = some 1 := by kernel_rfl
@[simp] theorem tbytes_167 : tbytes Try.prog 167 = some 8 := by kernel_rfl
@[simp] theorem zcells_167 : zcells Try.prog 167 = some [.sc (.nilFunc)] := by kernel_rfl
@[simp] theorem tzero_167 : tzero Try.prog 167 = some (.nilFunc) := by kernel_rfl
@[simp] theorem azero_167 : azero Try.prog 167 = some (.sc (.nilFunc)) := by kernel_rfl
@[simp] theorem tagg_168 : tagg Try.prog 168 = some false := by kernel_rfl
@[simp] theorem tsz_168 : tsz Try.prog 168 = some 1 := by kernel_rfl
@[simp] theorem tbytes_168 : tbytes Try.prog 168 = some 8 := by kernel_rfl
@[simp] theorem zcells_168 : zcells Try.prog 168 = some [.sc (.nilFunc)] := by kernel_rfl
@[simp] theorem tzero_168 : tzero Try.prog 168 = some (.nilFunc) := by kernel_rfl
@[simp] theorem azero_168 : azero Try.prog 168 = some (.sc (.nilFunc)) := by kernel_rfl
@[simp] theorem tagg_169 : tagg Try.prog 169 = some false := by kernel_rfl
@[simp] theorem tsz_169 : tsz Try.prog 169 = some 1 := by kernel_rfl
@[simp] theorem tbytes_169 : tbytes Try.prog 169 = some 8 := by kernel_rfl
@[simp] theorem tint_169 : tint Try.prog 169 = some .u64 := by kernel_rfl
@[simp] theorem hasU_169 : hasU Try.prog 169 = true := by kernel_rfl
@[simp] theorem zcells_169 : zcells Try.prog 169 = some [.sc (.int .u64 0)] := by kernel_rfl
@[simp] theorem tzero_169 : tzero Try.prog 169 = some (.int .u64 0) := by kernel_rfl
@[simp] theorem azero_169 : azero Try.prog 169 = some (.sc (.int .u64 0)) := by kernel_rfl
@[simp] theorem tagg_171 : tagg Try.prog 171 = some false := by kernel_rfl
@[simp] theorem tsz_171 : tsz Try.prog 171 = some 1 := by kernel_rfl
@[simp] theorem tbytes_171 : tbytes Try.prog 171 = some 8 := by kernel_rfl
@[simp] theorem zcells_171 : zcells Try.prog 171 = some [.sc (.nilFunc)] := by kernel_rfl
@[simp] theorem tzero_171 : tzero Try.prog 171 = some (.nilFunc) := by kernel_rfl
@[simp] theorem azero_171 : azero Try.prog 171 = some (.sc (.nilFunc)) := by kernel_rfl
@[simp] theorem tagg_172 : tagg Try.prog 172 = some false := by kernel_rfl
@[simp] theorem tsz_172 : tsz Try.prog 172 = some 1 := by kernel_rfl
@[simp] theorem tbytes_172 : tbytes Try.prog 172 = some 8 := by kernel_rfl
@[simp] theorem zcells_172 : zcells Try.prog 172 = some [.sc (.nilFunc)] := by kernel_rfl
@[simp] theorem tzero_172 : tzero Try.prog 172 = some (.nilFunc) := by kernel_rfl
@[simp] theorem azero_172 : azero Try.prog 172 = some (.sc (.nilFunc)) := by kernel_rfl
@[simp] theorem tagg_173 : tagg Try.prog 173 = some false := by kernel_rfl
@[simp] theorem tsz_173 : tsz Try.prog 173 = some 1 := by kernel_rfl
@[simp] theorem tbytes_173 : tbytes Try.prog 173 = some 8 := by kernel_rfl
@[simp] theorem zcells_173 : zcells Try.prog 173 = some [.sc (.nilFunc)] := by kernel_rfl
@[simp] theorem tzero_173 : tzero Try.prog 173 = some (.nilFunc) := by kernel_rfl
@[simp] theorem azero_173 : azero Try.prog 173 = some (.sc (.nilFunc)) := by kernel_rfl
@[simp] theorem tagg_174 : tagg Try.prog 174 = some false := by kernel_rfl
@[simp] theorem tsz_174 : tsz Try.prog 174 = some 1 := by kernel_rfl
@[simp] theorem tbytes_174 : tbytes Try.prog 174 = some 8 := by kernel_rfl
@[simp] theorem zcells_174 : zcells Try.prog 174 = some [.sc (.nilFunc)] := by kernel_rfl
@[simp] theorem tzero_174 : tzero Try.prog 174 = some (.nilFunc) := by kernel_rfl
@[simp] theorem azero_174 : azero Try.prog 174 = some (.sc (.nilFunc)) := by kernel_rfl
@[simp] theorem tagg_175 : tagg Try.prog 175 = some false := by kernel_rfl
@[simp] theorem tsz_175 : tsz Try.prog 175 = some 1 := by kernel_rfl
@[simp] theorem tbytes_175 : tbytes Try.prog 175 = some 8 := by kernel_rfl
@[simp] theorem zcells_175 : zcells Try.prog 175 = some [.sc (.pointer none)] := by kernel_rfl
@[simp] theorem tzero_175 : tzero Try.prog 175 = some (.pointer none) := by kernel_rfl
@[simp] theorem azero_175 : azero Try.prog 175 = some (.sc (.pointer none)) := by kernel_rfl
@[simp] theorem tagg_176 : tagg Try.prog 176 = some false := by kernel_rfl
@[simp] theorem tsz_176 : tsz Try.prog 176 = some 1 := by kernel_rfl
@[simp] theorem tbytes_176 : tbytes Try.prog 176 = some 8 := by kernel_rfl
@[simp] theorem tmap_176 : tmap Try.prog 176 = some (204, 4) := by kernel_rfl
@[simp] theorem tkl_176 : tkl Try.prog 176 = some 4 := by kernel_rfl
@[simp] theorem zcells_176 : zcells Try.prog 176 = some [.sc (.map none)] := by kernel_rfl
@[simp] theorem tzero_176 : tzero Try.prog 176 = some (.map none) := by kernel_rfl
@[simp] theorem azero_176 : azero Try.prog 176 = some (.sc (.map none)) := by kernel_rfl
@[simp] theorem tagg_177 : tagg Try.prog 177 = some true := by kernel_rfl
@[simp] theorem tsz_177 : tsz Try.prog 177 = some 3 := by kernel_rfl
@[simp] theorem tbytes_177 : tbytes Try.prog 177 = some 40 := by kernel_rfl
@[simp] theorem tfield_177_0 : tfield Try.prog 177 0 = some 0 := by kernel_rfl
@[simp] theorem tfld_177_0 : tfld Try.prog 177 0 = some (0, false) := by kernel_rfl
@[simp] theorem tfield_177_1 : tfield Try.prog 177 1 = some 1 := by kernel_rfl
@[simp] theorem tfld_177_1 : tfld Try.prog 177 1 = some (1, false) := by kernel_rfl
@[simp] theorem tfield_177_2 : tfield Try.prog 177 2 = some 2 := by kernel_rfl
@[simp] theorem tfld_177_2 : tfld Try.prog 177 2 = some (2, false) := by kernel_rfl
@[simp] theorem tplaces_177 : tplaces Try.prog 177 = some fun i => [(0, 1), (1, 1), (2, 1)][i]? := by kernel_rfl
@[simp] theorem zcells_177 : zcells Try.prog 177 = some [.sc (.map none), .sc (.slice none 0 0), .sc (.int .i64 0)] := by kernel_rfl
@[simp] theorem tzero_177 : tzero Try.prog 177 = some (.agg #[.map none, .slice none 0 0, .int .i64 0]) := by kernel_rfl
@[simp] theorem azero_177 : azero Try.prog 177 = some (.ag [.sc (.map none), .sc (.slice none 0 0), .sc (.int .i64 0)]) := by kernel_rfl
@[simp] theorem tagg_178 : tagg Try.prog 178 = some true := by kernel_rfl
@[simp] theorem tsz_178 : tsz Try.prog 178 = some 3 := by kernel_rfl
@[simp] theorem tbytes_178 : tbytes Try.prog 178 = some 40 := by kernel_rfl
@[simp] theorem tfield_178_0 : tfield Try.prog 178 0 = some 0 := by kernel_rfl
@[simp] theorem tfld_178_0 : tfld Try.prog 178 0 = some (0, false) := by kernel_rfl
@[simp] theorem tfield_178_1 : tfield Try.prog 178 1 = some 1 := by kernel_rfl
@[simp] theorem tfld_178_1 : tfld Try.prog 178 1 = some (1, false) := by kernel_rfl
@[simp] theorem tfield_178_2 : tfield Try.prog 178 2 = some 2 := by kernel_rfl
@[simp] theorem tfld_178_2 : tfld Try.prog 178 2 = some (2, false) := by kernel_rfl
@[simp] theorem tplaces_178 : tplaces Try.prog 178 = some fun i => [(0, 1), (1, 1), (2, 1)][i]? := by kernel_rfl
@[simp] theorem zcells_178 : zcells Try.prog 178 = some [.sc (.map none), .sc (.slice none 0 0), .sc (.int .i64 0)] := by kernel_rfl
@[simp] theorem tzero_178 : tzero Try.prog 178 = some (.agg #[.map none, .slice none 0 0, .int .i64 0]) := by kernel_rfl
@[simp] theorem azero_178 : azero Try.prog 178 = some (.ag [.sc (.map none), .sc (.slice none 0 0), .sc (.int .i64 0)]) := by kernel_rfl
@[simp] theorem tagg_179 : tagg Try.prog 179 = some false := by kernel_rfl
@[simp] theorem tsz_179 : tsz Try.prog 179 = some 1 := by kernel_rfl
@[simp] theorem tbytes_179 : tbytes Try.prog 179 = some 8 := by kernel_rfl
@[simp] theorem zcells_179 : zcells Try.prog 179 = some [.sc (.nilFunc)] := by kernel_rfl
@[simp] theorem tzero_179 : tzero Try.prog 179 = some (.nilFunc) := by kernel_rfl
@[simp] theorem azero_179 : azero Try.prog 179 = some (.sc (.nilFunc)) := by kernel_rfl
@[simp] theorem tagg_180 : tagg Try.prog 180 = some false := by kernel_rfl
@[simp] theorem tsz_180 : tsz Try.prog 180 = some 1 := by kernel_rfl
@[simp] theorem tbytes_180 : tbytes Try.prog 180 = some 8 := by kernel_rfl
@[simp] theorem zcells_180 : zcells Try.prog 180 = some [.sc (.nilFunc)] := by kernel_rfl
@[simp] theorem tzero_180 : tzero Try.prog 180 = some (.nilFunc) := by kernel_rfl
@[simp] theorem azero_180 : azero Try.prog 180 = some (.sc (.nilFunc)) := by kernel_rfl
@[simp] theorem tagg_181 : tagg Try.prog 181 = some false := by kernel_rfl
@[simp] theorem tsz_181 : tsz Try.prog 181 = some 1 := by kernel_rfl
@[simp] theorem tbytes_181 : tbytes Try.prog 181 = some 8 := by kernel_rfl
@[simp] theorem zcells_181 : zcells Try.prog 181 = some [.sc (.nilFunc)] := by kernel_rfl
@[simp] theorem tzero_181 : tzero Try.prog 181 = some (.nilFunc) := by kernel_rfl
@[simp] theorem azero_181 : azero Try.prog 181 = some (.sc (.nilFunc)) := by kernel_rfl
@[simp] theorem tagg_182 : tagg Try.prog 182 = some false := by kernel_rfl
@[simp] theorem tsz_182 : tsz Try.prog 182 = some 1 := by kernel_rfl
@[simp] theorem tbytes_182 : tbytes Try.prog 182 = some 8 := by kernel_rfl
@[simp] theorem zcells_182 : zcells Try.prog 182 = some [.sc (.nilFunc)] := by kernel_rfl
@[simp] theorem tzero_182 : tzero Try.prog 182 = some (.nilFunc) := by kernel_rfl
@[simp] theorem azero_182 : azero Try.prog 182 = some (.sc (.nilFunc)) := by kernel_rfl
@[simp] theorem tagg_183 : tagg Try.prog 183 = some false := by kernel_rfl
@[simp] theorem tsz_183 : tsz Try.prog 183 = some 1 := by kernel_rfl
@[simp] theorem tbytes_183 : tbytes Try.prog 183 = some 8 := by kernel_rfl
@[simp] theorem zcells_183 : zcells Try.prog 183 = some [.sc (.nilFunc)] := by kernel_rfl
@[simp] theorem tzero_183 : tzero Try.prog 183 = some (.nilFunc) := by kernel_rfl
@[simp] theorem azero_183 : azero Try.prog 183 = some (.sc (.nilFunc)) := by kernel_rfl
@[simp] theorem tagg_184 : tagg Try.prog 184 = some false := by kernel_rfl
@[simp] theorem tsz_184 : tsz Try.prog 184 = some 1 := by kernel_rfl
@[simp] theorem tbytes_184 : tbytes Try.prog 184 = some 8 := by kernel_rfl
@[simp] theorem zcells_184 : zcells Try.prog 184 = some [.sc (.nilFunc)] := by kernel_rfl
@[simp] theorem tzero_184 : tzero Try.prog 184 = some (.nilFunc) := by kernel_rfl
@[simp] theorem azero_184 : azero Try.prog 184 = some (.sc (.nilFunc)) := by kernel_rfl
@[simp] theorem tagg_185 : tagg Try.prog 185 = some false := by kernel_rfl
@[simp] theorem tsz_185 : tsz Try.prog 185 = some 1 := by kernel_rfl
@[simp] theorem tbytes_185 : tbytes Try.prog 185 = some 8 := by kernel_rfl
@[simp] theorem zcells_185 : zcells Try.prog 185 = some [.sc (.nilFunc)] := by kernel_rfl
@[simp] theorem tzero_185 : tzero Try.prog 185 = some (.nilFunc) := by kernel_rfl
@[simp] theorem azero_185 : azero Try.prog 185 = some (.sc (.nilFunc)) := by kernel_rfl
@[simp] theorem tagg_186 : tagg Try.prog 186 = some false := by kernel_rfl
@[simp] theorem tsz_186 : tsz Try.prog 186 = some 1 := by kernel_rfl
@[simp] theorem tbytes_186 : tbytes Try.prog 186 = some 8 := by kernel_rfl
@[simp] theorem zcells_186 : zcells Try.prog 186 = some [.sc (.nilFunc)] := by kernel_rfl
@[simp] theorem tzero_186 : tzero Try.prog 186 = some (.nilFunc) := by kernel_rfl
@[simp] theorem azero_186 : azero Try.prog 186 = some (.sc (.nilFunc)) := by kernel_rfl
@[simp] theorem tagg_187 : tagg Try.prog 187 = some false := by kernel_rfl
@[simp] theorem tsz_187 : tsz Try.prog 187 = some 1 := by kernel_rfl
@[simp] theorem tbytes_187 : tbytes Try.prog 187 = some 8 := by kernel_rfl
@[simp] theorem zcells_187 : zcells Try.prog 187 = some [.sc (.nilFunc)] := by kernel_rfl
@[simp] theorem tzero_187 : tzero Try.prog 187 = some (.nilFunc) := by kernel_rfl
@[simp] theorem azero_187 : azero Try.prog 187 = some (.sc (.nilFunc)) := by kernel_rfl
@[simp] theorem tagg_188 : tagg Try.prog 188 = some false := by kernel_rfl
@[simp] theorem tsz_188 : tsz Try.prog 188 = some 1 := by kernel_rfl
@[simp] theorem tbytes_188 : tbytes Try.prog 188 = some 8 := by kernel_rfl
@[simp] theorem zcells_188 : zcells Try.prog 188 = some [.sc (.nilFunc)] := by kernel_rfl
@[simp] theorem tzero_188 : tzero Try.prog 188 = some (.nilFunc) := by kernel_rfl
@[simp] theorem azero_188 : azero Try.prog 188 = some (.sc (.nilFunc)) := by kernel_rfl
@[simp] theorem tagg_189 : tagg Try.prog 189 = some false := by kernel_rfl
@[simp] theorem tsz_189 : tsz Try.prog 189 = some 1 := by kernel_rfl
@[simp] theorem tbytes_189 : tbytes Try.prog 189 = some 8 := by kernel_rfl
@[simp] theorem zcells_189 : zcells Try.prog 189 = some [.sc (.nilFunc)] := by kernel_rfl
@[simp] theorem tzero_189 : tzero Try.prog 189 = some (.nilFunc) := by kernel_rfl
@[simp] theorem azero_189 : azero Try.prog 189 = some (.sc (.nilFunc)) := by kernel_rfl
@[simp] theorem tagg_190 : tagg Try.prog 190 = some false := by kernel_rfl
@[simp] theorem tsz_190 : tsz Try.prog 190 = some 1 := by kernel_rfl
@[simp] theorem tbytes_190 : tbytes Try.prog 190 = some 24 := by kernel_rfl
@[simp] theorem tslice_190 : tslice Try.prog 190 = some 203 := by kernel_rfl
@[simp] theorem zcells_190 : zcells Try.prog 190 = some [.sc (.slice none 0 0)] := by kernel_rfl
@[simp] theorem tzero_190 : tzero Try.prog 190 = some (.slice none 0 0) := by kernel_rfl
@[simp] theorem azero_190 : azero Try.prog 190 = some (.sc (.slice none 0 0)) := by kernel_rfl
@[simp] theorem tagg_191 : tagg Try.prog 191 = some false := by kernel_rfl
@[simp] theorem tsz_191 : tsz Try.prog 191 = some 1 := by kernel_rfl
@[simp] theorem tbytes_191 : tbytes Try.prog 191 = some 8 := by kernel_rfl
@[simp] theorem zcells_191 : zcells Try.prog 191 = some [.sc (.nilFunc)] := by kernel_rfl
@[simp] theorem tzero_191 : tzero Try.prog 191 = some (.nilFunc) := by kernel_rfl
@[simp] theorem azero_191 : azero Try.prog 191 = some (.sc (.nilFunc)) := by kernel_rfl
@[simp] theorem tagg_192 : tagg Try.prog 192 = some false := by kernel_rfl
@[simp] theorem tsz_192 : tsz Try.prog 192 = some 1 := by kernel_rfl
@[simp] theorem tbytes_192 : tbytes Try.prog 192 = some 8 := by kernel_rfl
@[simp] theorem zcells_192 : zcells Try.prog 192 = some [.sc (.nilFunc)] := by kernel_rfl
@[simp] theorem tzero_192 : tzero Try.prog 192 = some (.nilFunc) := by kernel_rfl
@[simp] theorem azero_192 : azero Try.prog 192 = some (.sc (.nilFunc)) := by kernel_rfl
@[simp] theorem tagg_193 : tagg Try.prog 193 = some false := by kernel_rfl
@[simp] theorem tsz_193 : tsz Try.prog 193 = some 1 := by kernel_rfl
@[simp] theorem tbytes_193 : tbytes Try.prog 193 = some 8 := by kernel_rfl
@[simp] theorem zcells_193 : zcells Try.prog 193 = some [.sc (.nilFunc)] := by kernel_rfl
@[simp] theorem tzero_193 : tzero Try.prog 193 = some (.nilFunc) := by kernel_rfl
@[simp] theorem azero_193 : azero Try.prog 193 = some (.sc (.nilFunc)) := by kernel_rfl
@[simp] theorem tagg_194 : tagg Try.prog 194 = some false := by kernel_rfl
@[simp] theorem tsz_194 : tsz Try.prog 194 = some 1 := by kernel_rfl
@[simp] theorem tbytes_194 : tbytes Try.prog 194 = some 8 := by kernel_rfl
@[simp] theorem zcells_194 : zcells Try.prog 194 = some [.sc (.nilFunc)] := by kernel_rfl
@[simp] theorem tzero_194 : tzero Try.prog 194 = some (.nilFunc) := by kernel_rfl
@[simp] theorem azero_194 : azero Try.prog 194 = some (.sc (.nilFunc)) := by kernel_rfl
@[simp] theorem tagg_195 : tagg Try.prog 195 = some false := by kernel_rfl
@[simp] theorem tsz_195 : tsz Try.prog 195 = some 1 := by kernel_rfl
@[simp] theorem tbytes_195 : tbytes Try.prog 195 = some 8 := by kernel_rfl
@[simp] theorem zcells_195 : zcells Try.prog 195 = some [.sc (.nilFunc)] := by kernel_rfl
@[simp] theorem tzero_195 : tzero Try.prog 195 = some (.nilFunc) := by kernel_rfl
@[simp] theorem azero_195 : azero Try.prog 195 = some (.sc (.nilFunc)) := by kernel_rfl
@[simp] theorem tagg_197 : tagg Try.prog 197 = some false := by kernel_rfl
@[simp] theorem tsz_197 : tsz Try.prog 197 = some 1 := by kernel_rfl
@[simp] theorem tbytes_197 : tbytes Try.prog 197 = some 8 := by kernel_rfl
@[simp] theorem zcells_197 : zcells Try.prog 197 = some [.sc (.nilFunc)] := by kernel_rfl
@[simp] theorem tzero_197 : tzero Try.prog 197 = some (.nilFunc) := by kernel_rfl
@[simp] theorem azero_197 : azero Try.prog 197 = some (.sc (.nilFunc)) := by kernel_rfl
@[simp] theorem tagg_198 : tagg Try.prog 198 = some false := by kernel_rfl
@[simp] theorem tsz_198 : tsz Try.prog 198 = some 1 := by kernel_rfl
@[simp] theorem tbytes_198 : tbytes Try.prog 198 = some 8 := by kernel_rfl
@[simp] theorem tint_198 : tint Try.prog 198 = some .u64 := by kernel_rfl
@[simp] theorem hasU_198 : hasU Try.prog 198 = true := by kernel_rfl
@[simp] theorem zcells_198 : zcells Try.prog 198 = some [.sc (.int .u64 0)] := by kernel_rfl
@[simp] theorem tzero_198 : tzero Try.prog 198 = some (.int .u64 0) := by kernel_rfl
@[simp] theorem azero_198 : azero Try.prog 198 = some (.sc (.int .u64 0)) := by kernel_rfl
@[simp] theorem tagg_200 : tagg Try.prog 200 = some false := by kernel_rfl
@[simp] theorem tsz_200 : tsz Try.prog 200 = some 1 := by kernel_rfl
@[simp] theorem tbytes_200 : tbytes Try.prog 200 = some 8 := by kernel_rfl
@[simp] theorem zcells_200 : zcells Try.prog 200 = some [.sc (.nilFunc)] := by kernel_rfl
@[simp] theorem tzero_200 : tzero Try.prog 200 = some (.nilFunc) := by kernel_rfl
@[simp] theorem azero_200 : azero Try.prog 200 = some (.sc (.nilFunc)) := by kernel_rfl
@[simp] theorem tagg_201 : tagg Try.prog 201 = some false := by kernel_rfl
@[simp] theorem tsz_201 : tsz Try.prog 201 = some 1 := by kernel_rfl
@[simp] theorem tbytes_201 : tbytes Try.prog 201 = some 8 := by kernel_rfl
@[simp] theorem zcells_201 : zcells Try.prog 201 = some [.sc (.nilFunc)] := by kernel_rfl
@[simp] theorem tzero_201 : tzero Try.prog 201 = some (.nilFunc) := by kernel_rfl
@[simp] theorem azero_201 : azero Try.prog 201 = some (.sc (.nilFunc)) := by kernel_rfl
@[simp] theorem tagg_202 : tagg Try.prog 202 = some false := by kernel_rfl
@[simp] theorem tsz_202 : tsz Try.prog 202 = some 1 := by kernel_rfl
@[simp] theorem tbytes_202 : tbytes Try.prog 202 = some 8 := by kernel_rfl
@[simp] theorem zcells_202 : zcells Try.prog 202 = some [.sc (.nilFunc)] := by kernel_rfl
@[simp] theorem tzero_202 : tzero Try.prog 202 = some (.nilFunc) := by kernel_rfl
@[simp] theorem azero_202 : azero Try.prog 202 = some (.sc (.nilFunc)) := by kernel_rfl
@[simp] theorem tagg_203 : tagg Try.prog 203 = some true := by kernel_rfl
@[simp] theorem tsz_203 : tsz Try.prog 203 = some 2 := by kernel_rfl
@[simp] theorem tbytes_203 : tbytes Try.prog 203 = some 16 := by kernel_rfl
@[simp] theorem tarray_203 : tarray Try.prog 203 = some (2, 3) := by kernel_rfl
@[simp] theorem tplaces_203 : tplaces Try.prog 203 = some fun i => some (i * 1, 1) := by kernel_rfl
@[simp] theorem zcells_203 : zcells Try.prog 203 = some [.sc (.int .i64 0), .sc (.int .i64 0)] := by kernel_rfl
@[simp] theorem tzero_203 : tzero Try.prog 203 = some (.agg #[.int .i64 0, .int .i64 0]) := by kernel_rfl
@[simp] theorem azero_203 : azero Try.prog 203 = some (.ag [.sc (.int .i64 0), .sc (.int .i64 0)]) := by kernel_rfl
@[simp] theorem tagg_204 : tagg Try.prog 204 = some true := by kernel_rfl
@[simp] theorem tsz_204 : tsz Try.prog 204 = some 2 := by kernel_rfl
@[simp] theorem tbytes_204 : tbytes Try.prog 204 = some 16 := by kernel_rfl
@[simp] theorem tarray_204 : tarray Try.prog 204 = some (2, 3) := by kernel_rfl
@[simp] theorem tplaces_204 : tplaces Try.prog 204 = some fun i => some (i * 1, 1) := by kernel_rfl
@[simp] theorem zcells_204 : zcells Try.prog 204 = some [.sc (.int .i64 0), .sc (.int .i64 0)] := by kernel_rfl
@[simp] theorem tzero_204 : tzero Try.prog 204 = some (.agg #[.int .i64 0, .int .i64 0]) := by kernel_rfl
@[simp] theorem azero_204 : azero Try.prog 204 = some (.ag [.sc (.int .i64 0), .sc (.int .i64 0)]) := by kernel_rfl
@[simp] theorem tagg_205 : tagg Try.prog 205 = some false := by kernel_rfl
@[simp] theorem tsz_205 : tsz Try.prog 205 = some 1 := by kernel_rfl
@[simp] theorem tbytes_205 : tbytes Try.prog 205 = some 8 := by kernel_rfl
@[simp] theorem zcells_205 : zcells Try.prog 205 = some [.sc (.nilFunc)] := by kernel_rfl
@[simp] theorem tzero_205 : tzero Try.prog 205 = some (.nilFunc) := by kernel_rfl
@[simp] theorem azero_205 : azero Try.prog 205 = some (.sc (.nilFunc)) := by kernel_rfl
@[simp] theorem tagg_206 : tagg Try.prog 206 = some false := by kernel_rfl
@[simp] theorem tsz_206 : tsz Try.prog 206 = some 1 := by kernel_rfl
@[simp] theorem tbytes_206 : tbytes Try.prog 206 = some 8 := by kernel_rfl
@[simp] theorem zcells_206 : zcells Try.prog 206 = some [.sc (.nilFunc)] := by kernel_rfl
@[simp] theorem tzero_206 : tzero Try.prog 206 = some (.nilFunc) := by kernel_rfl
@[simp] theorem azero_206 : azero Try.prog 206 = some (.sc (.nilFunc)) := by kernel_rfl
@[simp] theorem tagg_207 : tagg Try.prog 207 = some false := by kernel_rfl
@[simp] theorem tsz_207 : tsz Try.prog 207 = some 1 := by kernel_rfl
@[simp] theorem tbytes_207 : tbytes Try.prog 207 = some 8 := by kernel_rfl
@[simp] theorem zcells_207 : zcells Try.prog 207 = some [.sc (.nilFunc)] := by kernel_rfl
@[simp] theorem tzero_207 : tzero Try.prog 207 = some (.nilFunc) := by kernel_rfl
@[simp] theorem azero_207 : azero Try.prog 207 = some (.sc (.nilFunc)) := by kernel_rfl
@[simp] theorem tagg_208 : tagg Try.prog 208 = some false := by kernel_rfl
@[simp] theorem tsz_208 : tsz Try.prog 208 = some 1 := by kernel_rfl
@[simp] theorem tbytes_208 : tbytes Try.prog 208 = some 8 := by kernel_rfl
@[simp] theorem zcells_208 : zcells Try.prog 208 = some [.sc (.nilFunc)] := by kernel_rfl
@[simp] theorem tzero_208 : tzero Try.prog 208 = some (.nilFunc) := by kernel_rfl
@[simp] theorem azero_208 : azero Try.prog 208 = some (.sc (.nilFunc)) := by kernel_rfl
@[simp] theorem tagg_210 : tagg Try.prog 210 = some false := by kernel_rfl
@[simp] theorem tsz_210 : tsz Try.prog 210 = some 1 := by kernel_rfl
@[simp] theorem tbytes_210 : tbytes Try.prog 210 = some 8 := by kernel_rfl
@[simp] theorem zcells_210 : zcells Try.prog 210 = some [.sc (.nilFunc)] := by kernel_rfl
@[simp] theorem tzero_210 : tzero Try.prog 210 = some (.nilFunc) := by kernel_rfl
@[simp] theorem azero_210 : azero Try.prog 210 = some (.sc (.nilFunc)) := by kernel_rfl
@[simp] theorem tagg_212 : tagg Try.prog 212 = some false := by kernel_rfl
@[simp] theorem tsz_212 : tsz Try.prog 212 = some 1 := by kernel_rfl
@[simp] theorem tbytes_212 : tbytes Try.prog 212 = some 8 := by kernel_rfl
@[simp] theorem zcells_212 : zcells Try.prog 212 = some [.sc (.nilFunc)] := by kernel_rfl
@[simp] theorem tzero_212 : tzero Try.prog 212 = some (.nilFunc) := by kernel_rfl
@[simp] theorem azero_212 : azero Try.prog 212 = some (.sc (.nilFunc)) := by kernel_rfl
@[simp] theorem tagg_213 : tagg Try.prog 213 = some false := by kernel_rfl
@[simp] theorem tsz_213 : tsz Try.prog 213 = some 1 := by kernel_rfl
@[simp] theorem tbytes_213 : tbytes Try.prog 213 = some 8 := by kernel_rfl
@[simp] theorem zcells_213 : zcells Try.prog 213 = some [.sc (.nilFunc)] := by kernel_rfl
@[simp] theorem tzero_213 : tzero Try.prog 213 = some (.nilFunc) := by kernel_rfl
@[simp] theorem azero_213 : azero Try.prog 213 = some (.sc (.nilFunc)) := by kernel_rfl
@[simp] theorem tagg_214 : tagg Try.prog 214 = some false := by kernel_rfl
@[simp] theorem tsz_214 : tsz Try.prog 214 = some 1 := by kernel_rfl
@[simp] theorem tbytes_214 : tbytes Try.prog 214 = some 8 := by kernel_rfl
@[simp] theorem zcells_214 : zcells Try.prog 214 = some [.sc (.nilFunc)] := by kernel_rfl
@[simp] theorem tzero_214 : tzero Try.prog 214 = some (.nilFunc) := by kernel_rfl
@[simp] theorem azero_214 : azero Try.prog 214 = some (.sc (.nilFunc)) := by kernel_rfl
@[simp] theorem tagg_215 : tagg Try.prog 215 = some false := by kernel_rfl
@[simp] theorem tsz_215 : tsz Try.prog 215 = some 1 := by kernel_rfl
@[simp] theorem tbytes_215 : tbytes Try.prog 215 = some 8 := by kernel_rfl
@[simp] theorem zcells_215 : zcells Try.prog 215 = some [.sc (.nilFunc)] := by kernel_rfl
@[simp] theorem tzero_215 : tzero Try.prog 215 = some (.nilFunc) := by kernel_rfl
@[simp] theorem azero_215 : azero Try.prog 215 = some (.sc (.nilFunc)) := by kernel_rfl
@[simp] theorem tagg_216 : tagg Try.prog 216 = some false := by kernel_rfl
@[simp] theorem tsz_216 : tsz Try.prog 216 = some 1 := by kernel_rfl
@[simp] theorem tbytes_216 : tbytes Try.prog 216 = some 8 := by kernel_rfl
@[simp] theorem zcells_216 : zcells Try.prog 216 = some [.sc (.nilFunc)] := by kernel_rfl
@[simp] theorem tzero_216 : tzero Try.prog 216 = some (.nilFunc) := by kernel_rfl
@[simp] theorem azero_216 : azero Try.prog 216 = some (.sc (.nilFunc)) := by kernel_rfl
@[simp] theorem tagg_217 : tagg Try.prog 217 = some true := by kernel_rfl
@[simp] theorem tsz_217 : tsz Try.prog 217 = some 2 := by kernel_rfl
@[simp] theorem tbytes_217 : tbytes Try.prog 217 = some 16 := by kernel_rfl
@[simp] theorem tarray_217 : tarray Try.prog 217 = some (2, 3) := by kernel_rfl
@[simp] theorem tplaces_217 : tplaces Try.prog 217 = some fun i => some (i * 1, 1) := by kernel_rfl
@[simp] theorem zcells_217 : zcells Try.prog 217 = some [.sc (.int .i64 0), .sc (.int .i64 0)] := by kernel_rfl
@[simp] theorem tzero_217 : tzero Try.prog 217 = some (.agg #[.int .i64 0, .int .i64 0]) := by kernel_rfl
@[simp] theorem azero_217 : azero Try.prog 217 = some (.ag [.sc (.int .i64 0), .sc (.int .i64 0)]) := by kernel_rfl
@[simp] theorem tagg_218 : tagg Try.prog 218 = some false := by kernel_rfl
@[simp] theorem tsz_218 : tsz Try.prog 218 = some 1 := by kernel_rfl
@[simp] theorem tbytes_218 : tbytes Try.prog 218 = some 8 := by kernel_rfl
@[simp] theorem zcells_218 : zcells Try.prog 218 = some [.sc (.nilFunc)] := by kernel_rfl
@[simp] theorem tzero_218 : tzero Try.prog 218 = some (.nilFunc) := by kernel_rfl
@[simp] theorem azero_218 : azero Try.prog 218 = some (.sc (.nilFunc)) := by kernel_rfl
@[simp] theorem tagg_219 : tagg Try.prog 219 = some false := by kernel_rfl
@[simp] theorem tsz_219 : tsz Try.prog 219 = some 1 := by kernel_rfl
@[simp] theorem tbytes_219 : tbytes Try.prog 219 = some 8 := by kernel_rfl
@[simp] theorem zcells_219 : zcells Try.prog 219 = some [.sc (.nilFunc)] := by kernel_rfl
@[simp] theorem tzero_219 : tzero Try.prog 219 = some (.nilFunc) := by kernel_rfl
@[simp] theorem azero_219 : azero Try.prog 219 = some (.sc (.nilFunc)) := by kernel_rfl
@[simp] theorem tagg_220 : tagg Try.prog 220 = some false := by kernel_rfl
@[simp] theorem tsz_220 : tsz Try.prog 220 = some 1 := by kernel_rfl
@[simp] theorem tbytes_220 : tbytes Try.prog 220 = some 8 := by kernel_rfl
@[simp] theorem zcells_220 : zcells Try.prog 220 = some [.sc (.nilFunc)] := by kernel_rfl
@[simp] theorem tzero_220 : tzero Try.prog 220 = some (.nilFunc) := by kernel_rfl
@[simp] theorem azero_220 : azero Try.prog 220 = some (.sc (.nilFunc)) := by kernel_rfl
@[simp] theorem tagg_221 : tagg Try.prog 221 = some false := by kernel_rfl
@[simp] theorem tsz_221 : tsz Try.prog 221 = some 1 := by kernel_rfl
@[simp] theorem tbytes_221 : tbytes Try.prog 221 = some 8 := by kernel_rfl
@[simp] theorem zcells_221 : zcells Try.prog 221 = some [.sc (.nilFunc)] := by kernel_rfl
@[simp] theorem tzero_221 : tzero Try.prog 221 = some (.nilFunc) := by kernel_rfl
@[simp] theorem azero_221 : azero Try.prog 221 = some (.sc (.nilFunc)) := by kernel_rfl
@[simp] theorem tagg_222 : tagg Try.prog 222 = some false := by kernel_rfl
@[simp] theorem tsz_222 : tsz Try.prog 222 = some 1 := by kernel_rfl
@[simp] theorem tbytes_222 : tbytes Try.prog 222 = some 8 := by kernel_rfl
@[simp] theorem zcells_222 : zcells Try.prog 222 = some [.sc (.nilFunc)] := by kernel_rfl
@[simp] theorem tzero_222 : tzero Try.prog 222 = some (.nilFunc) := by kernel_rfl
@[simp] theorem azero_222 : azero Try.prog 222 = some (.sc (.nilFunc)) := by kernel_rfl
@[simp] theorem tagg_228 : tagg Try.prog 228 = some false := by kernel_rfl
@[simp] theorem tsz_228 : tsz Try.prog 228 = some 1 := by kernel_rfl
@[simp] theorem tbytes_228 : tbytes Try.prog 228 = some 8 := by kernel_rfl
@[simp] theorem zcells_228 : zcells Try.prog 228 = some [.sc (.nilFunc)] := by kernel_rfl
@[simp] theorem tzero_228 : tzero Try.prog 228 = some (.nilFunc) := by kernel_rfl
@[simp] theorem azero_228 : azero Try.prog 228 = some (.sc (.nilFunc)) := by kernel_rfl
@[simp] theorem tagg_231 : tagg Try.prog 231 = some false := by kernel_rfl
@[simp] theorem tsz_231 : tsz Try.prog 231 = some 1 := by kernel_rfl
@[simp] theorem tbytes_231 : tbytes Try.prog 231 = some 8 := by kernel_rfl
@[simp] theorem zcells_231 : zcells Try.prog 231 = some [.sc (.nilFunc)] := by kernel_rfl
@[simp] theorem tzero_231 : tzero Try.prog 231 = some (.nilFunc) := by kernel_rfl
@[simp] theorem azero_231 : azero Try.prog 231 = some (.sc (.nilFunc)) := by kernel_rfl
@[simp] theorem tagg_232 : tagg Try.prog 232 = some false := by kernel_rfl
@[simp] theorem tsz_232 : tsz Try.prog 232 = some 1 := by kernel_rfl
@[simp] theorem tbytes_232 : tbytes Try.prog 232 = some 8 := by kernel_rfl
@[simp] theorem zcells_232 : zcells Try.prog 232 = some [.sc (.pointer none)] := by kernel_rfl
@[simp] theorem tzero_232 : tzero Try.prog 232 = some (.pointer none) := by kernel_rfl
@[simp] theorem azero_232 : azero Try.prog 232 = some (.sc (.pointer none)) := by kernel_rfl
@[simp] theorem tagg_235 : tagg Try.prog 235 = some true := by kernel_rfl
@[simp] theorem tsz_235 : tsz Try.prog 235 = some 11 := by kernel_rfl
@[simp] theorem tbytes_235 : tbytes Try.prog 235 = some 48 := by kernel_rfl
@[simp] theorem tfield_235_0 : tfield Try.prog 235 0 = some 0 := by kernel_rfl
@[simp] theorem tfld_235_0 : tfld Try.prog 235 0 = some (0, false) := by kernel_rfl
@[simp] theorem tfield_235_1 : tfield Try.prog 235 1 = some 1 := by kernel_rfl
@[simp] theorem tfld_235_1 : tfld Try.prog 235 1 = some (1, false) := by kernel_rfl
@[simp] theorem tfield_235_2 : tfield Try.prog 235 2 = some 2 := by kernel_rfl
@[simp] theorem tfld_235_2 : tfld Try.prog 235 2 = some (2, false) := by kernel_rfl
@[simp] theorem tfield_235_3 : tfield Try.prog 235 3 = some 3 := by kernel_rfl
@[simp] theorem tfld_235_3 : tfld Try.prog 235 3 = some (3, false) := by kernel_rfl
@[simp] theorem tfield_235_4 : tfield Try.prog 235 4 = some 4 := by kernel_rfl
@[simp] theorem tfld_235_4 : tfld Try.prog 235 4 = some (4, false) := by kernel_rfl
@[simp] theorem tfield_235_5 : tfield Try.prog 235 5 = some 5 := by kernel_rfl
@[simp] theorem tfld_235_5 : tfld Try.prog 235 5 = some (5, false) := by kernel_rfl
@[simp] theorem tfield_235_6 : tfield Try.prog 235 6 = some 6 := by kernel_rfl
@[simp] theorem tfld_235_6 : tfld Try.prog 235 6 = some (6, false) := by kernel_rfl
@[simp] theorem tfield_235_7 : tfield Try.prog 235 7 = some 7 := by kernel_rfl
@[simp] theorem tfld_235_7 : tfld Try.prog 235 7 = some (7, false) := by kernel_rfl
@[simp] theorem tfield_235_8 : tfield Try.prog 235 8 = some 8 := by kernel_rfl
@[simp] theorem tfld_235_8 : tfld Try.prog 235 8 = some (8, false) := by kernel_rfl
@[simp] theorem tfield_235_9 : tfield Try.prog 235 9 = some 9 := by kernel_rfl
@[simp] theorem tfld_235_9 : tfld Try.prog 235 9 = some (9, false) := by kernel_rfl
@[simp] theorem tfield_235_10 : tfield Try.prog 235 10 = some 10 := by kernel_rfl
@[simp] theorem tfld_235_10 : tfld Try.prog 235 10 = some (10, false) := by kernel_rfl
@[simp] theorem tplaces_235 : tplaces Try.prog 235 = some fun i => [(0, 1), (1, 1), (2, 1), (3, 1), (4, 1), (5, 1), (6, 1), (7, 1), (8, 1), (9, 1), (10, 1)][i]? := by kernel_rfl
@[simp] theorem zcells_235 : zcells Try.prog 235 = some [.sc (.int .u64 0), .sc (.int .u64 0), .sc (.int .u32 0), .sc (.int .u8 0), .sc (.int .u8 0), .sc (.int .u8 0), .sc (.int .u8 0), .sc (.nilFunc), .sc (.pointer none), .sc (.int .i32 0), .sc (.int .i32 0)] := by kernel_rfl
@[simp] theorem tzero_235 : tzero Try.prog 235 = some (.agg #[.int .u64 0, .int .u64 0, .int .u32 0, .int .u8 0, .int .u8 0, .int .u8 0, .int .u8 0, .nilFunc, .pointer none, .int .i32 0, .int .i32 0]) := by kernel_rfl
@[simp] theorem azero_235 : azero Try.prog 235 = some (.ag [.sc (.int .u64 0), .sc (.int .u64 0), .sc (.int .u32 0), .sc (.int .u8 0), .sc (.int .u8 0), .sc (.int .u8 0), .sc (.int .u8 0), .sc (.nilFunc), .sc (.pointer none), .sc (.int .i32 0), .sc (.int .i32 0)]) := by kernel_rfl
@[simp] theorem tagg_237 : tagg Try.prog 237 = some false := by kernel_rfl
@[simp] theorem tsz_237 : tsz Try.prog 237 = some 1 := by kernel_rfl
@[simp] theorem tbytes_237 : tbytes Try.prog 237 = some 8 := by kernel_rfl
@[simp] theorem zcells_237 : zcells Try.prog 237 = some [.sc (.pointer none)] := by kernel_rfl
@[simp] theorem tzero_237 : tzero Try.prog 237 = some (.pointer none) := by kernel_rfl
@[simp] theorem azero_237 : azero Try.prog 237 = some (.sc (.pointer none)) := by kernel_rfl
end Go.Proofs.Ytdimikmgkdcglaa
