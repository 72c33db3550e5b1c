/- A part of the proof of the laws of layer 32: abstract values and contracts of functions; no statement of its own. -/
import Derived.Test.YtobhdinkckckhaaGreatA4
import Derived.Test.YtobhdinkckckhaaGreatProg
set_option linter.unusedSimpArgs false
set_option linter.unusedVariables false
set_option maxRecDepth 100000
namespace Go.Am.Tryz
open Go.Proofs
theorem tb1 : tbOf Tryz.prog 1 = some ⟨.func, 1, 8, .nilf, .none⟩ := tbOf_eq _ (by kernel_rfl) (by kernel_rfl)
theorem tb2 : tbOf Tryz.prog 2 = some ⟨(.int .i64), 1, 8, (.int .i64 0), .int⟩ := tbOf_eq _ (by kernel_rfl) (by kernel_rfl)
theorem tb3 : tbOf Tryz.prog 3 = some ⟨(.int .i64), 1, 8, (.int .i64 0), .int⟩ := tbOf_eq _ (by kernel_rfl) (by kernel_rfl)
theorem tb4 : tbOf Tryz.prog 4 = some ⟨.bool, 1, 1, (.bool false), .bool⟩ := tbOf_eq _ (by kernel_rfl) (by kernel_rfl)
theorem tb5 : tbOf Tryz.prog 5 = some ⟨(.int .u8), 1, 1, (.int .u8 0), .int⟩ := tbOf_eq _ (by kernel_rfl) (by kernel_rfl)
theorem tb6 : tbOf Tryz.prog 6 = some ⟨(.int .u8), 1, 1, (.int .u8 0), .int⟩ := tbOf_eq _ (by kernel_rfl) (by kernel_rfl)
theorem tb7 : tbOf Tryz.prog 7 = some ⟨(.struct [(2, 0), (3, 1), (4, 2), (6, 3)]), 4, 24, (.agg [(.int .i64 0), (.int .i64 0), (.bool false), (.int .u8 0)]), (.agg [.int, .int, .bool, .int])⟩ := tbOf_eq _ (by kernel_rfl) (by kernel_rfl)
theorem tb8 : tbOf Tryz.prog 8 = some ⟨(.struct [(2, 0), (3, 1), (4, 2), (6, 3)]), 4, 24, (.agg [(.int .i64 0), (.int .i64 0), (.bool false), (.int .u8 0)]), (.agg [.int, .int, .bool, .int])⟩ := tbOf_eq _ (by kernel_rfl) (by kernel_rfl)
theorem tb9 : tbOf Tryz.prog 9 = some ⟨.str, 1, 16, (.str []), .str⟩ := tbOf_eq _ (by kernel_rfl) (by kernel_rfl)
theorem tb10 : tbOf Tryz.prog 10 = some ⟨.str, 1, 16, (.str []), .str⟩ := tbOf_eq _ (by kernel_rfl) (by kernel_rfl)
theorem tb11 : tbOf Tryz.prog 11 = some ⟨.str, 1, 16, (.str []), .str⟩ := tbOf_eq _ (by kernel_rfl) (by kernel_rfl)
theorem tb12 : tbOf Tryz.prog 12 = some ⟨(.int .u64), 1, 8, (.int .u64 0), .int⟩ := tbOf_eq _ (by kernel_rfl) (by kernel_rfl)
theorem tb15 : tbOf Tryz.prog 15 = some ⟨(.ptr 178), 1, 8, .nilp, .none⟩ := tbOf_eq _ (by kernel_rfl) (by kernel_rfl)
theorem tb16 : tbOf Tryz.prog 16 = some ⟨(.ptr 181), 1, 8, .nilp, .none⟩ := tbOf_eq _ (by kernel_rfl) (by kernel_rfl)
theorem tb17 : tbOf Tryz.prog 17 = some ⟨(.ptr 190), 1, 8, .nilp, .none⟩ := tbOf_eq _ (by kernel_rfl) (by kernel_rfl)
theorem tb18 : tbOf Tryz.prog 18 = some ⟨(.struct [(17, 0)]), 1, 8, (.agg [.nilp]), .none⟩ := tbOf_eq _ (by kernel_rfl) (by kernel_rfl)
theorem tb19 : tbOf Tryz.prog 19 = some ⟨(.struct [(17, 0)]), 1, 8, (.agg [.nilp]), .none⟩ := tbOf_eq _ (by kernel_rfl) (by kernel_rfl)
theorem tb20 : tbOf Tryz.prog 20 = some ⟨.iface, 1, 16, .nili, .none⟩ := tbOf_eq _ (by kernel_rfl) (by kernel_rfl)
theorem tb21 : tbOf Tryz.prog 21 = some ⟨(.int .i32), 1, 4, (.int .i32 0), .int⟩ := tbOf_eq _ (by kernel_rfl) (by kernel_rfl)
theorem tb22 : tbOf Tryz.prog 22 = some ⟨(.slice 57), 1, 24, .nils, .none⟩ := tbOf_eq _ (by kernel_rfl) (by kernel_rfl)
theorem tb23 : tbOf Tryz.prog 23 = some ⟨(.slice 28), 1, 24, .nils, .none⟩ := tbOf_eq _ (by kernel_rfl) (by kernel_rfl)
theorem tb24 : tbOf Tryz.prog 24 = some ⟨(.struct [(22, 0), (23, 1)]), 2, 48, (.agg [.nils, .nils]), .none⟩ := tbOf_eq _ (by kernel_rfl) (by kernel_rfl)
theorem tb25 : tbOf Tryz.prog 25 = some ⟨(.struct [(22, 0), (23, 1)]), 2, 48, (.agg [.nils, .nils]), .none⟩ := tbOf_eq _ (by kernel_rfl) (by kernel_rfl)
theorem tb26 : tbOf Tryz.prog 26 = some ⟨.func, 1, 8, .nilf, .none⟩ := tbOf_eq _ (by kernel_rfl) (by kernel_rfl)
theorem tb27 : tbOf Tryz.prog 27 = some ⟨.func, 1, 8, .nilf, .none⟩ := tbOf_eq _ (by kernel_rfl) (by kernel_rfl)
theorem tb28 : tbOf Tryz.prog 28 = some ⟨(.slice 5), 1, 24, .nils, .none⟩ := tbOf_eq _ (by kernel_rfl) (by kernel_rfl)
theorem tb29 : tbOf Tryz.prog 29 = some ⟨(.int .i64), 1, 8, (.int .i64 0), .int⟩ := tbOf_eq _ (by kernel_rfl) (by kernel_rfl)
theorem tb31 : tbOf Tryz.prog 31 = some ⟨.func, 1, 8, .nilf, .none⟩ := tbOf_eq _ (by kernel_rfl) (by kernel_rfl)
theorem tb33 : tbOf Tryz.prog 33 = some ⟨.func, 1, 8, .nilf, .none⟩ := tbOf_eq _ (by kernel_rfl) (by kernel_rfl)
theorem tb34 : tbOf Tryz.prog 34 = some ⟨.func, 1, 8, .nilf, .none⟩ := tbOf_eq _ (by kernel_rfl) (by kernel_rfl)
theorem tb35 : tbOf Tryz.prog 35 = some ⟨.func, 1, 8, .nilf, .none⟩ := tbOf_eq _ (by kernel_rfl) (by kernel_rfl)
theorem tb36 : tbOf Tryz.prog 36 = some ⟨(.ptr 79), 1, 8, .nilp, .none⟩ := tbOf_eq _ (by kernel_rfl) (by kernel_rfl)
theorem tb37 : tbOf Tryz.prog 37 = some ⟨.func, 1, 8, .nilf, .none⟩ := tbOf_eq _ (by kernel_rfl) (by kernel_rfl)
theorem tb38 : tbOf Tryz.prog 38 = some ⟨.func, 1, 8, .nilf, .none⟩ := tbOf_eq _ (by kernel_rfl) (by kernel_rfl)
theorem tb39 : tbOf Tryz.prog 39 = some ⟨.func, 1, 8, .nilf, .none⟩ := tbOf_eq _ (by kernel_rfl) (by kernel_rfl)
theorem tb40 : tbOf Tryz.prog 40 = some ⟨(.slice 3), 1, 24, .nils, .none⟩ := tbOf_eq _ (by kernel_rfl) (by kernel_rfl)
theorem tb41 : tbOf Tryz.prog 41 = some ⟨(.ptr 44), 1, 8, .nilp, .none⟩ := tbOf_eq _ (by kernel_rfl) (by kernel_rfl)
theorem tb42 : tbOf Tryz.prog 42 = some ⟨(.slice 94), 1, 24, .nils, .none⟩ := tbOf_eq _ (by kernel_rfl) (by kernel_rfl)
theorem tb43 : tbOf Tryz.prog 43 = some ⟨(.struct [(42, 0), (4, 1), (3, 2), (4, 3)]), 4, 48, (.agg [.nils, (.bool false), (.int .i64 0), (.bool false)]), .none⟩ := tbOf_eq _ (by kernel_rfl) (by kernel_rfl)
theorem tb44 : tbOf Tryz.prog 44 = some ⟨(.struct [(42, 0), (4, 1), (3, 2), (4, 3)]), 4, 48, (.agg [.nils, (.bool false), (.int .i64 0), (.bool false)]), .none⟩ := tbOf_eq _ (by kernel_rfl) (by kernel_rfl)
theorem tb45 : tbOf Tryz.prog 45 = some ⟨.func, 1, 8, .nilf, .none⟩ := tbOf_eq _ (by kernel_rfl) (by kernel_rfl)
theorem tb46 : tbOf Tryz.prog 46 = some ⟨.func, 1, 8, .nilf, .none⟩ := tbOf_eq _ (by kernel_rfl) (by kernel_rfl)
theorem tb47 : tbOf Tryz.prog 47 = some ⟨.func, 1, 8, .nilf, .none⟩ := tbOf_eq _ (by kernel_rfl) (by kernel_rfl)
theorem tb48 : tbOf Tryz.prog 48 = some ⟨.func, 1, 8, .nilf, .none⟩ := tbOf_eq _ (by kernel_rfl) (by kernel_rfl)
theorem tb49 : tbOf Tryz.prog 49 = some ⟨.func, 1, 8, .nilf, .none⟩ := tbOf_eq _ (by kernel_rfl) (by kernel_rfl)
theorem tb50 : tbOf Tryz.prog 50 = some ⟨.func, 1, 8, .nilf, .none⟩ := tbOf_eq _ (by kernel_rfl) (by kernel_rfl)
theorem tb51 : tbOf Tryz.prog 51 = some ⟨(.int .i64), 1, 8, (.int .i64 0), .int⟩ := tbOf_eq _ (by kernel_rfl) (by kernel_rfl)
theorem tb52 : tbOf Tryz.prog 52 = some ⟨(.arr 8 5), 8, 8, (.agg (List.replicate 8 (.int .u8 0))), (.rep 8 .int)⟩ := tbOf_eq _ (by kernel_rfl) (by kernel_rfl)
theorem tb53 : tbOf Tryz.prog 53 = some ⟨(.arr 8 5), 8, 8, (.agg (List.replicate 8 (.int .u8 0))), (.rep 8 .int)⟩ := tbOf_eq _ (by kernel_rfl) (by kernel_rfl)
theorem tb54 : tbOf Tryz.prog 54 = some ⟨(.struct [(3, 0), (3, 1), (3, 2), (3, 3), (3, 4), (51, 5), (53, 6), (53, 14)]), 22, 64, (.agg [(.int .i64 0), (.int .i64 0), (.int .i64 0), (.int .i64 0), (.int .i64 0), (.int .i64 0), (.agg (List.replicate 8 (.int .u8 0))), (.agg (List.replicate 8 (.int .u8 0)))]), (.agg [.int, .int, .int, .int, .int, .int, (.rep 8 .int), (.rep 8 .int)])⟩ := tbOf_eq _ (by kernel_rfl) (by kernel_rfl)
theorem tb55 : tbOf Tryz.prog 55 = some ⟨(.struct [(3, 0), (3, 1), (3, 2), (3, 3), (3, 4), (51, 5), (53, 6), (53, 14)]), 22, 64, (.agg [(.int .i64 0), (.int .i64 0), (.int .i64 0), (.int .i64 0), (.int .i64 0), (.int .i64 0), (.agg (List.replicate 8 (.int .u8 0))), (.agg (List.replicate 8 (.int .u8 0)))]), (.agg [.int, .int, .int, .int, .int, .int, (.rep 8 .int), (.rep 8 .int)])⟩ := tbOf_eq _ (by kernel_rfl) (by kernel_rfl)
theorem tb56 : tbOf Tryz.prog 56 = some ⟨(.struct [(55, 0), (28, 22)]), 23, 88, (.agg [(.agg [(.int .i64 0), (.int .i64 0), (.int .i64 0), (.int .i64 0), (.int .i64 0), (.int .i64 0), (.agg (List.replicate 8 (.int .u8 0))), (.agg (List.replicate 8 (.int .u8 0)))]), .nils]), .none⟩ := tbOf_eq _ (by kernel_rfl) (by kernel_rfl)
theorem tb57 : tbOf Tryz.prog 57 = some ⟨(.struct [(55, 0), (28, 22)]), 23, 88, (.agg [(.agg [(.int .i64 0), (.int .i64 0), (.int .i64 0), (.int .i64 0), (.int .i64 0), (.int .i64 0), (.agg (List.replicate 8 (.int .u8 0))), (.agg (List.replicate 8 (.int .u8 0)))]), .nils]), .none⟩ := tbOf_eq _ (by kernel_rfl) (by kernel_rfl)
theorem tb58 : tbOf Tryz.prog 58 = some ⟨.func, 1, 8, .nilf, .none⟩ := tbOf_eq _ (by kernel_rfl) (by kernel_rfl)
theorem tb59 : tbOf Tryz.prog 59 = some ⟨.func, 1, 8, .nilf, .none⟩ := tbOf_eq _ (by kernel_rfl) (by kernel_rfl)
theorem tb60 : tbOf Tryz.prog 60 = some ⟨(.int .u64), 1, 8, (.int .u64 0), .int⟩ := tbOf_eq _ (by kernel_rfl) (by kernel_rfl)
theorem tb62 : tbOf Tryz.prog 62 = some ⟨.func, 1, 8, .nilf, .none⟩ := tbOf_eq _ (by kernel_rfl) (by kernel_rfl)
theorem tb63 : tbOf Tryz.prog 63 = some ⟨.func, 1, 8, .nilf, .none⟩ := tbOf_eq _ (by kernel_rfl) (by kernel_rfl)
theorem tb64 : tbOf Tryz.prog 64 = some ⟨.func, 1, 8, .nilf, .none⟩ := tbOf_eq _ (by kernel_rfl) (by kernel_rfl)
theorem tb65 : tbOf Tryz.prog 65 = some ⟨(.ptr 114), 1, 8, .nilp, .none⟩ := tbOf_eq _ (by kernel_rfl) (by kernel_rfl)
theorem tb66 : tbOf Tryz.prog 66 = some ⟨.func, 1, 8, .nilf, .none⟩ := tbOf_eq _ (by kernel_rfl) (by kernel_rfl)
theorem tb67 : tbOf Tryz.prog 67 = some ⟨.func, 1, 8, .nilf, .none⟩ := tbOf_eq _ (by kernel_rfl) (by kernel_rfl)
theorem tb69 : tbOf Tryz.prog 69 = some ⟨.func, 1, 8, .nilf, .none⟩ := tbOf_eq _ (by kernel_rfl) (by kernel_rfl)
theorem tb70 : tbOf Tryz.prog 70 = some ⟨.func, 1, 8, .nilf, .none⟩ := tbOf_eq _ (by kernel_rfl) (by kernel_rfl)
theorem tb71 : tbOf Tryz.prog 71 = some ⟨.func, 1, 8, .nilf, .none⟩ := tbOf_eq _ (by kernel_rfl) (by kernel_rfl)
theorem tb72 : tbOf Tryz.prog 72 = some ⟨.func, 1, 8, .nilf, .none⟩ := tbOf_eq _ (by kernel_rfl) (by kernel_rfl)
theorem tb74 : tbOf Tryz.prog 74 = some ⟨.func, 1, 8, .nilf, .none⟩ := tbOf_eq _ (by kernel_rfl) (by kernel_rfl)
theorem tb76 : tbOf Tryz.prog 76 = some ⟨.func, 1, 8, .nilf, .none⟩ := tbOf_eq _ (by kernel_rfl) (by kernel_rfl)
theorem tb77 : tbOf Tryz.prog 77 = some ⟨(.map 9 81), 1, 8, .nilm, .none⟩ := tbOf_eq _ (by kernel_rfl) (by kernel_rfl)
theorem tb78 : tbOf Tryz.prog 78 = some ⟨(.struct [(77, 0), (4, 1), (4, 2), (3, 3)]), 4, 24, (.agg [.nilm, (.bool false), (.bool false), (.int .i64 0)]), .none⟩ := tbOf_eq _ (by kernel_rfl) (by kernel_rfl)
theorem tb79 : tbOf Tryz.prog 79 = some ⟨(.struct [(77, 0), (4, 1), (4, 2), (3, 3)]), 4, 24, (.agg [.nilm, (.bool false), (.bool false), (.int .i64 0)]), .none⟩ := tbOf_eq _ (by kernel_rfl) (by kernel_rfl)
theorem tb80 : tbOf Tryz.prog 80 = some ⟨.func, 1, 8, .nilf, .none⟩ := tbOf_eq _ (by kernel_rfl) (by kernel_rfl)
theorem tb81 : tbOf Tryz.prog 81 = some ⟨(.ptr 85), 1, 8, .nilp, .none⟩ := tbOf_eq _ (by kernel_rfl) (by kernel_rfl)
theorem tb83 : tbOf Tryz.prog 83 = some ⟨.func, 1, 8, .nilf, .none⟩ := tbOf_eq _ (by kernel_rfl) (by kernel_rfl)
theorem tb84 : tbOf Tryz.prog 84 = some ⟨(.struct [(28, 0), (3, 1)]), 2, 32, (.agg [.nils, (.int .i64 0)]), .none⟩ := tbOf_eq _ (by kernel_rfl) (by kernel_rfl)
theorem tb85 : tbOf Tryz.prog 85 = some ⟨(.struct [(28, 0), (3, 1)]), 2, 32, (.agg [.nils, (.int .i64 0)]), .none⟩ := tbOf_eq _ (by kernel_rfl) (by kernel_rfl)
theorem tb86 : tbOf Tryz.prog 86 = some ⟨.func, 1, 8, .nilf, .none⟩ := tbOf_eq _ (by kernel_rfl) (by kernel_rfl)
theorem tb87 : tbOf Tryz.prog 87 = some ⟨.func, 1, 8, .nilf, .none⟩ := tbOf_eq _ (by kernel_rfl) (by kernel_rfl)
theorem tb88 : tbOf Tryz.prog 88 = some ⟨.func, 1, 8, .nilf, .none⟩ := tbOf_eq _ (by kernel_rfl) (by kernel_rfl)
theorem tb89 : tbOf Tryz.prog 89 = some ⟨(.struct [(40, 0)]), 1, 24, (.agg [.nils]), .none⟩ := tbOf_eq _ (by kernel_rfl) (by kernel_rfl)
theorem tb90 : tbOf Tryz.prog 90 = some ⟨(.struct [(40, 0)]), 1, 24, (.agg [.nils]), .none⟩ := tbOf_eq _ (by kernel_rfl) (by kernel_rfl)
theorem tb91 : tbOf Tryz.prog 91 = some ⟨(.slice 9), 1, 24, .nils, .none⟩ := tbOf_eq _ (by kernel_rfl) (by kernel_rfl)
theorem tb92 : tbOf Tryz.prog 92 = some ⟨.func, 1, 8, .nilf, .none⟩ := tbOf_eq _ (by kernel_rfl) (by kernel_rfl)
theorem tb93 : tbOf Tryz.prog 93 = some ⟨(.struct [(9, 0), (28, 1), (3, 2)]), 3, 48, (.agg [(.str []), .nils, (.int .i64 0)]), .none⟩ := tbOf_eq _ (by kernel_rfl) (by kernel_rfl)
theorem tb94 : tbOf Tryz.prog 94 = some ⟨(.struct [(9, 0), (28, 1), (3, 2)]), 3, 48, (.agg [(.str []), .nils, (.int .i64 0)]), .none⟩ := tbOf_eq _ (by kernel_rfl) (by kernel_rfl)
theorem tb95 : tbOf Tryz.prog 95 = some ⟨.func, 1, 8, .nilf, .none⟩ := tbOf_eq _ (by kernel_rfl) (by kernel_rfl)
theorem tb96 : tbOf Tryz.prog 96 = some ⟨.func, 1, 8, .nilf, .none⟩ := tbOf_eq _ (by kernel_rfl) (by kernel_rfl)
theorem tb97 : tbOf Tryz.prog 97 = some ⟨.func, 1, 8, .nilf, .none⟩ := tbOf_eq _ (by kernel_rfl) (by kernel_rfl)
theorem tb98 : tbOf Tryz.prog 98 = some ⟨.func, 1, 8, .nilf, .none⟩ := tbOf_eq _ (by kernel_rfl) (by kernel_rfl)
theorem tb99 : tbOf Tryz.prog 99 = some ⟨.func, 1, 8, .nilf, .none⟩ := tbOf_eq _ (by kernel_rfl) (by kernel_rfl)
theorem tb100 : tbOf Tryz.prog 100 = some ⟨.func, 1, 8, .nilf, .none⟩ := tbOf_eq _ (by kernel_rfl) (by kernel_rfl)
theorem tb101 : tbOf Tryz.prog 101 = some ⟨.func, 1, 8, .nilf, .none⟩ := tbOf_eq _ (by kernel_rfl) (by kernel_rfl)
theorem tb102 : tbOf Tryz.prog 102 = some ⟨.func, 1, 8, .nilf, .none⟩ := tbOf_eq _ (by kernel_rfl) (by kernel_rfl)
theorem tb103 : tbOf Tryz.prog 103 = some ⟨.func, 1, 8, .nilf, .none⟩ := tbOf_eq _ (by kernel_rfl) (by kernel_rfl)
theorem tb104 : tbOf Tryz.prog 104 = some ⟨.func, 1, 8, .nilf, .none⟩ := tbOf_eq _ (by kernel_rfl) (by kernel_rfl)
theorem tb105 : tbOf Tryz.prog 105 = some ⟨.func, 1, 8, .nilf, .none⟩ := tbOf_eq _ (by kernel_rfl) (by kernel_rfl)
theorem tb106 : tbOf Tryz.prog 106 = some ⟨.func, 1, 8, .nilf, .none⟩ := tbOf_eq _ (by kernel_rfl) (by kernel_rfl)
theorem tb107 : tbOf Tryz.prog 107 = some ⟨.func, 1, 8, .nilf, .none⟩ := tbOf_eq _ (by kernel_rfl) (by kernel_rfl)
theorem tb108 : tbOf Tryz.prog 108 = some ⟨.func, 1, 8, .nilf, .none⟩ := tbOf_eq _ (by kernel_rfl) (by kernel_rfl)
theorem tb109 : tbOf Tryz.prog 109 = some ⟨.func, 1, 8, .nilf, .none⟩ := tbOf_eq _ (by kernel_rfl) (by kernel_rfl)
theorem tb110 : tbOf Tryz.prog 110 = some ⟨.func, 1, 8, .nilf, .none⟩ := tbOf_eq _ (by kernel_rfl) (by kernel_rfl)
theorem tb111 : tbOf Tryz.prog 111 = some ⟨(.int .u64), 1, 8, (.int .u64 0), .int⟩ := tbOf_eq _ (by kernel_rfl) (by kernel_rfl)
theorem tb112 : tbOf Tryz.prog 112 = some ⟨.func, 1, 8, .nilf, .none⟩ := tbOf_eq _ (by kernel_rfl) (by kernel_rfl)
theorem tb113 : tbOf Tryz.prog 113 = some ⟨(.struct [(28, 0), (3, 1), (4, 2)]), 3, 40, (.agg [.nils, (.int .i64 0), (.bool false)]), .none⟩ := tbOf_eq _ (by kernel_rfl) (by kernel_rfl)
theorem tb114 : tbOf Tryz.prog 114 = some ⟨(.struct [(28, 0), (3, 1), (4, 2)]), 3, 40, (.agg [.nils, (.int .i64 0), (.bool false)]), .none⟩ := tbOf_eq _ (by kernel_rfl) (by kernel_rfl)
theorem tb116 : tbOf Tryz.prog 116 = some ⟨.func, 1, 8, .nilf, .none⟩ := tbOf_eq _ (by kernel_rfl) (by kernel_rfl)
theorem tb117 : tbOf Tryz.prog 117 = some ⟨.func, 1, 8, .nilf, .none⟩ := tbOf_eq _ (by kernel_rfl) (by kernel_rfl)
theorem tb118 : tbOf Tryz.prog 118 = some ⟨.func, 1, 8, .nilf, .none⟩ := tbOf_eq _ (by kernel_rfl) (by kernel_rfl)
theorem tb119 : tbOf Tryz.prog 119 = some ⟨.func, 1, 8, .nilf, .none⟩ := tbOf_eq _ (by kernel_rfl) (by kernel_rfl)
theorem tb120 : tbOf Tryz.prog 120 = some ⟨.func, 1, 8, .nilf, .none⟩ := tbOf_eq _ (by kernel_rfl) (by kernel_rfl)
theorem tb121 : tbOf Tryz.prog 121 = some ⟨.func, 1, 8, .nilf, .none⟩ := tbOf_eq _ (by kernel_rfl) (by kernel_rfl)
theorem tb122 : tbOf Tryz.prog 122 = some ⟨.func, 1, 8, .nilf, .none⟩ := tbOf_eq _ (by kernel_rfl) (by kernel_rfl)
theorem tb123 : tbOf Tryz.prog 123 = some ⟨.func, 1, 8, .nilf, .none⟩ := tbOf_eq _ (by kernel_rfl) (by kernel_rfl)
theorem tb124 : tbOf Tryz.prog 124 = some ⟨.func, 1, 8, .nilf, .none⟩ := tbOf_eq _ (by kernel_rfl) (by kernel_rfl)
theorem tb125 : tbOf Tryz.prog 125 = some ⟨(.ptr 90), 1, 8, .nilp, .none⟩ := tbOf_eq _ (by kernel_rfl) (by kernel_rfl)
theorem tb126 : tbOf Tryz.prog 126 = some ⟨.func, 1, 8, .nilf, .none⟩ := tbOf_eq _ (by kernel_rfl) (by kernel_rfl)
theorem tb127 : tbOf Tryz.prog 127 = some ⟨(.slice 22), 1, 24, .nils, .none⟩ := tbOf_eq _ (by kernel_rfl) (by kernel_rfl)
theorem tb128 : tbOf Tryz.prog 128 = some ⟨.func, 1, 8, .nilf, .none⟩ := tbOf_eq _ (by kernel_rfl) (by kernel_rfl)
theorem tb129 : tbOf Tryz.prog 129 = some ⟨(.slice 23), 1, 24, .nils, .none⟩ := tbOf_eq _ (by kernel_rfl) (by kernel_rfl)
theorem tb130 : tbOf Tryz.prog 130 = some ⟨.func, 1, 8, .nilf, .none⟩ := tbOf_eq _ (by kernel_rfl) (by kernel_rfl)
theorem tb131 : tbOf Tryz.prog 131 = some ⟨.func, 1, 8, .nilf, .none⟩ := tbOf_eq _ (by kernel_rfl) (by kernel_rfl)
theorem tb132 : tbOf Tryz.prog 132 = some ⟨.func, 1, 8, .nilf, .none⟩ := tbOf_eq _ (by kernel_rfl) (by kernel_rfl)
theorem tb133 : tbOf Tryz.prog 133 = some ⟨.func, 1, 8, .nilf, .none⟩ := tbOf_eq _ (by kernel_rfl) (by kernel_rfl)
theorem tb134 : tbOf Tryz.prog 134 = some ⟨.func, 1, 8, .nilf, .none⟩ := tbOf_eq _ (by kernel_rfl) (by kernel_rfl)
theorem tb135 : tbOf Tryz.prog 135 = some ⟨.func, 1, 8, .nilf, .none⟩ := tbOf_eq _ (by kernel_rfl) (by kernel_rfl)
theorem tb136 : tbOf Tryz.prog 136 = some ⟨(.arr 5 3), 5, 40, (.agg (List.replicate 5 (.int .i64 0))), (.rep 5 .int)⟩ := tbOf_eq _ (by kernel_rfl) (by kernel_rfl)
theorem tb137 : tbOf Tryz.prog 137 = some ⟨.func, 1, 8, .nilf, .none⟩ := tbOf_eq _ (by kernel_rfl) (by kernel_rfl)
theorem tb138 : tbOf Tryz.prog 138 = some ⟨.func, 1, 8, .nilf, .none⟩ := tbOf_eq _ (by kernel_rfl) (by kernel_rfl)
theorem tb139 : tbOf Tryz.prog 139 = some ⟨.func, 1, 8, .nilf, .none⟩ := tbOf_eq _ (by kernel_rfl) (by kernel_rfl)
attribute [go_sem] tb1 tb2 tb3 tb4 tb5 tb6 tb7 tb8 tb9 tb10 tb11 tb12 tb15 tb16 tb17 tb18 tb19 tb20 tb21 tb22 tb23 tb24 tb25 tb26 tb27 tb28 tb29 tb31 tb33 tb34 tb35 tb36 tb37 tb38 tb39 tb40 tb41 tb42 tb43 tb44 tb45 tb46 tb47 tb48 tb49 tb50 tb51 tb52 tb53 tb54 tb55 tb56 tb57 tb58 tb59 tb60 tb62 tb63 tb64 tb65 tb66 tb67 tb69 tb70 tb71 tb72 tb74 tb76 tb77 tb78 tb79 tb80 tb81 tb83 tb84 tb85 tb86 tb87 tb88 tb89 tb90 tb91 tb92 tb93 tb94 tb95 tb96 tb97 tb98 tb99 tb100 tb101 tb102 tb103 tb104 tb105 tb106 tb107 tb108 tb109 tb110 tb111 tb112 tb113 tb114 tb116 tb117 tb118 tb119 tb120 tb121 tb122 tb123 tb124 tb125 tb126 tb127 tb128 tb129 tb130 tb131 tb132 tb133 tb134 tb135 tb136 tb137 tb138 tb139
end Go.Am.Tryz
set_option maxRecDepth 100000
set_option linter.unusedSimpArgs false
set_option linter.unusedVariables false
set_option pp.maxSteps 2000
namespace Go.Am.Tryz
open Go.Proofs

def sp_codec_extended (args : List AV) : RM CallSpec := match args with
  | [b, .int .i64 n] => (bysM b).bind fun l => mkS [.list (bys l), .int .i64 n] [] (.fresh fun r => (.own r [] 1 0 l.length (l.length + n).toNat, [(r, .row 5 1 (bys l) 0)])) false
  | _ => .fail
attribute [go_sem] sp_codec_extended
theorem extended_ok (l : List UInt8) (n : Int) (h0 : 0 ≤ n) (h1 : l.length + n ≤ 35184372088832) :
    FnG Tryz.prog 75 [.list (bys l), .int .i64 n] [] (.fresh fun r => (.own r [] 1 0 l.length (l.length + n).toNat, [(r, .row 5 1 (bys l) 0)])) := by
  refine FnG_of_W (sp := spL []) (tb := tbOf Tryz.prog) (tbOf_ok _) (by kernel_rfl) Tryz.func75 (c := _) rfl (by kernel_rfl) (by kernel_rfl) (Nat.le_of_ble_eq_true rfl) (rs := [.tmp 4]) rfl ?_
  unfold FnW
  simp +contextual -implicitDefEqProofs (disch := first | exact dsc _ | fail) only [go_sem, ↓reduceIte, Nat.reduceEqDiff, Nat.reduceAdd, Nat.reduceMul, Nat.reduceSub, Nat.reduceLT, Nat.reduceLeDiff, Nat.reduceBEq, reduceCtorEq, BEq.rfl, Int.reduceLT, Int.reduceLE, Int.reduceAdd, Int.reduceToNat, Int.reduceSub, Int.reduceMul, Int.reduceNeg, Int.reduceEq]
  intro r
  refine Fin_intro [r] tupOf_one ?_
  simp +contextual -implicitDefEqProofs (disch := first | exact dsc _ | fail) only [go_sem, push_cast, ↓reduceIte, Nat.reduceEqDiff, Nat.reduceAdd, Nat.reduceMul, Nat.reduceSub, Nat.reduceLT, Nat.reduceLeDiff, Nat.reduceBEq, reduceCtorEq, BEq.rfl, Int.reduceLT, Int.reduceLE, Int.reduceAdd, Int.reduceToNat, Int.reduceSub, Int.reduceMul, Int.reduceNeg, Int.reduceEq]
  omega
theorem t_codec_extended {l : List UInt8} {n : Int} (h0 : 0 ≤ n) (h1 : l.length + n ≤ 35184372088832) :
    FnG Tryz.prog 75 [.list (bys l), .int .i64 n] [] (.fresh fun r => (.own r [] 1 0 l.length (l.length + n).toNat, [(r, .row 5 1 (bys l) 0)])) = True := eq_true (extended_ok l n h0 h1)

attribute [go_sem ↓] t_codec_extended
def sp_codec_AppendUint (args : List AV) : RM CallSpec := match args with
  | [b, .int .u64 v, .int .i64 k] => (bysM b).bind fun l => mkS [.list (bys l), .int .u64 v, .int .i64 k] [] (.fresh fun r => (.own r [] 1 0 (l.length + k.toNat) (l.length + k.toNat), [(r, .row 5 1 (bys (l ++ be v.toNat k.toNat)) 0)])) false
  | _ => .fail
attribute [go_sem] sp_codec_AppendUint
theorem AppendUint_ok (l : List UInt8) (v k : Nat) (hk : k ≤ 8) (hv : v < 18446744073709551616) (hl : l.length ≤ 35184372080000) :
    FnG Tryz.prog 26 [.list (bys l), .int .u64 v, .int .i64 k] [] (.fresh fun r => (.own r [] 1 0 (l.length + k) (l.length + k), [(r, .row 5 1 (bys (l ++ be v k)) 0)])) := by
  refine FnG_of_W (sp := spL [(75, sp_codec_extended)]) (tb := tbOf Tryz.prog) (tbOf_ok _) (by kernel_rfl) Tryz.func26 (c := _) rfl (by kernel_rfl) (by kernel_rfl) (Nat.le_of_ble_eq_true rfl) (rs := [.tmp 6]) rfl ?_
  unfold FnW
  have e1 : (if (k : Int) < 0 then (0 : Int) else k) = k := if_neg (by omega)
  have e2 : (if (8 : Int) < k then (8 : Int) else k) = k := if_neg (by omega)
  simp +contextual -implicitDefEqProofs (disch := first | exact dsc _ | fail) only [go_sem, ↓reduceIte, Nat.reduceEqDiff, Nat.reduceAdd, Nat.reduceMul, Nat.reduceSub, Nat.reduceLT, Nat.reduceLeDiff, Nat.reduceBEq, reduceCtorEq, BEq.rfl, Int.reduceLT, Int.reduceLE, Int.reduceAdd, Int.reduceToNat, Int.reduceSub, Int.reduceMul, Int.reduceNeg, Int.reduceEq, e1, e2]
  intro r
  refine wloopW (α := Nat × Id × Nat) (fun p => ⟨[(7, .own p.2.1 [] 1 0 (l.length + p.1) p.2.2), (8, .int .i64 (k - 1 - p.1)), (1, .int .u64 v)], [(p.2.1, .row 5 1 (bys (l ++ (be v k).take p.1)) 0)]⟩) (fun p => p.1 ≤ k ∧ l.length + p.1 ≤ p.2.2) (fun p => k - p.1) (0, r, l.length + k) ?_ ?_ ?_
  · exact ⟨Nat.zero_le _, by simp⟩
  · have e3 : ((l.length : Int) + k).toNat = l.length + k := by omega
    simp +contextual -implicitDefEqProofs (disch := first | exact dsc _ | fail) only [go_sem, push_cast, ↓reduceIte, Nat.reduceEqDiff, Nat.reduceAdd, Nat.reduceMul, Nat.reduceSub, Nat.reduceLT, Nat.reduceLeDiff, Nat.reduceBEq, reduceCtorEq, BEq.rfl, Int.reduceLT, Int.reduceLE, Int.reduceAdd, Int.reduceToNat, Int.reduceSub, Int.reduceMul, Int.reduceNeg, Int.reduceEq, e3]
    simp
  · rintro ⟨m, r1, mc⟩ ⟨hm, hmc⟩
    simp only [] at hm hmc
    simp +contextual -implicitDefEqProofs (disch := first | exact dsc _ | fail) only [go_sem, ↓reduceIte, Nat.reduceEqDiff, Nat.reduceAdd, Nat.reduceMul, Nat.reduceSub, Nat.reduceLT, Nat.reduceLeDiff, Nat.reduceBEq, reduceCtorEq, BEq.rfl, Int.reduceLT, Int.reduceLE, Int.reduceAdd, Int.reduceToNat, Int.reduceSub, Int.reduceMul, Int.reduceNeg, Int.reduceEq]
    refine wcond_dec (fun h => ?_) (fun h => ?_)
    · obtain ⟨i, hi⟩ : ∃ i : Nat, (k : Int) - 1 - m = i := ⟨k - 1 - m, by omega⟩
      have hb := b8_shr v i hv
      simp only [hi]
      have hmin : min m k = m := by omega
      simp +contextual -implicitDefEqProofs (disch := first | exact dsc _ | fail) only [go_sem, ↓reduceIte, Nat.reduceEqDiff, Nat.reduceAdd, Nat.reduceMul, Nat.reduceSub, Nat.reduceLT, Nat.reduceLeDiff, Nat.reduceBEq, reduceCtorEq, BEq.rfl, Int.reduceLT, Int.reduceLE, Int.reduceAdd, Int.reduceToNat, Int.reduceSub, Int.reduceMul, Int.reduceNeg, Int.reduceEq, shr_run, hb, be_len, hmin]
      intro r2 _ r3 _
      refine round_intro (m + 1, r3, l.length + m + 1) ⟨by simp only []; omega, by simp only []; omega⟩ (by simp only []; omega) ?_
      simp +contextual -implicitDefEqProofs (disch := first | exact dsc _ | fail) only [go_sem, push_cast, ↓reduceIte, Nat.reduceEqDiff, Nat.reduceAdd, Nat.reduceMul, Nat.reduceSub, Nat.reduceLT, Nat.reduceLeDiff, Nat.reduceBEq, reduceCtorEq, BEq.rfl, Int.reduceLT, Int.reduceLE, Int.reduceAdd, Int.reduceToNat, Int.reduceSub, Int.reduceMul, Int.reduceNeg, Int.reduceEq]
      have hm2 := be_take v k m (by omega)
      have hi2 : k - 1 - m = i := by omega
      rw [hi2] at hm2
      rw [← hm2, List.append_assoc]
      first | exact ⟨by omega, by omega⟩ | exact ⟨by omega, by omega, rfl⟩ | omega
    · have hmk : m = k := by omega
      subst hmk
      simp +contextual -implicitDefEqProofs (disch := first | exact dsc _ | fail) only [go_sem, ↓reduceIte, Nat.reduceEqDiff, Nat.reduceAdd, Nat.reduceMul, Nat.reduceSub, Nat.reduceLT, Nat.reduceLeDiff, Nat.reduceBEq, reduceCtorEq, BEq.rfl, Int.reduceLT, Int.reduceLE, Int.reduceAdd, Int.reduceToNat, Int.reduceSub, Int.reduceMul, Int.reduceNeg, Int.reduceEq]
      refine Fin_intro [r1] tupOf_one ?_
      simp +contextual -implicitDefEqProofs (disch := first | exact dsc _ | fail) only [go_sem, push_cast, ↓reduceIte, Nat.reduceEqDiff, Nat.reduceAdd, Nat.reduceMul, Nat.reduceSub, Nat.reduceLT, Nat.reduceLeDiff, Nat.reduceBEq, reduceCtorEq, BEq.rfl, Int.reduceLT, Int.reduceLE, Int.reduceAdd, Int.reduceToNat, Int.reduceSub, Int.reduceMul, Int.reduceNeg, Int.reduceEq]
      first | exact hmc | (refine ⟨hmc, ?_⟩; rw [List.take_of_length_le (by rw [be_len]; exact Nat.le_refl _)])
theorem t_codec_AppendUint {l : List UInt8} {v k : Int} (h0 : 0 ≤ v) (h1 : v < 18446744073709551616) (h2 : 0 ≤ k) (h3 : k ≤ 8) (h4 : l.length ≤ 35184372080000) :
    FnG Tryz.prog 26 [.list (bys l), .int .u64 v, .int .i64 k] [] (.fresh fun r => (.own r [] 1 0 (l.length + k.toNat) (l.length + k.toNat), [(r, .row 5 1 (bys (l ++ be v.toNat k.toNat)) 0)])) = True := by
  have := AppendUint_ok l v.toNat k.toNat (by omega) (by omega) h4
  rw [Int.toNat_of_nonneg h0, Int.toNat_of_nonneg h2] at this
  exact eq_true this
attribute [go_sem ↓] t_codec_AppendUint
end Go.Am.Tryz
set_option maxRecDepth 100000
set_option linter.unusedSimpArgs false
set_option linter.unusedVariables false
set_option pp.maxSteps 2000
namespace Go.Am.Tryz
open Go.Proofs
def sp_vote_between (args : List AV) : RM CallSpec := match args with
  | [.int .i64 n, .int .i64 a, .int .i64 b] => pureS [.int .i64 n, .int .i64 a, .int .i64 b] (.bool (decide (a ≤ n) && decide (n ≤ b)))
  | _ => .fail
attribute [go_sem] sp_vote_between
theorem t_vote_between (n a b : Int) : FnG Tryz.prog 123 [.int .i64 n, .int .i64 a, .int .i64 b] [] (.val (.bool (decide (a ≤ n) && decide (n ≤ b)))) = True := by
  refine eq_true ?_
  refine FnG_of_W (sp := spL []) (tb := tbOf Tryz.prog) (tbOf_ok _) (by kernel_rfl) Tryz.func123 (c := _) rfl (by kernel_rfl) (by kernel_rfl) (Nat.le_of_ble_eq_true rfl) (rs := [.tmp 6]) rfl ?_
  unfold FnW
  simp +contextual -implicitDefEqProofs (disch := first | exact dsc _ | fail) only [go_sem, ↓reduceIte, Nat.reduceEqDiff, Nat.reduceAdd, Nat.reduceMul, Nat.reduceSub, Nat.reduceLT, Nat.reduceLeDiff, Nat.reduceBEq, reduceCtorEq, BEq.rfl, Int.reduceLT, Int.reduceLE, Int.reduceAdd, Int.reduceToNat, Int.reduceSub, Int.reduceMul, Int.reduceNeg, Int.reduceEq]
  refine Fin_intro [] tupOf_one ?_
  simp +contextual -implicitDefEqProofs (disch := first | exact dsc _ | fail) only [go_sem, push_cast, ↓reduceIte, Nat.reduceEqDiff, Nat.reduceAdd, Nat.reduceMul, Nat.reduceSub, Nat.reduceLT, Nat.reduceLeDiff, Nat.reduceBEq, reduceCtorEq, BEq.rfl, Int.reduceLT, Int.reduceLE, Int.reduceAdd, Int.reduceToNat, Int.reduceSub, Int.reduceMul, Int.reduceNeg, Int.reduceEq]
attribute [go_sem ↓] t_vote_between
def sp_vote_Valid (args : List AV) : RM CallSpec := match args with
  | [a] => (opt (voteD a)).bind fun v => pureS [voteA v] (.bool (validV v))
  | _ => .fail
attribute [go_sem] sp_vote_Valid
theorem t_vote_Valid (v : Vote) : FnG Tryz.prog 103 [voteA v] [] (.val (.bool (validV v))) = True := by
  refine eq_true ?_
  refine FnG_of_W (sp := spL [(123, sp_vote_between)]) (tb := tbOf Tryz.prog) (tbOf_ok _) (by kernel_rfl) Tryz.func103 (c := _) rfl (by kernel_rfl) (by kernel_rfl) (Nat.le_of_ble_eq_true rfl) (rs := [.tmp 2]) rfl ?_
  unfold FnW
  repeat' (first | (with_reducible intro _) | (with_reducible refine wcond_not ?_) | ((with_reducible refine wcond_dec (fun _ => ?_) (fun _ => ?_)) <;> try (exfalso; omega)) | (with_reducible refine wcond_split (fun _ => ?_) (fun _ => ?_)) | (with_reducible refine draw_ro (by kernel_rfl) ?_) | simp +contextual -implicitDefEqProofs (disch := first | exact dsc _ | fail) only [go_sem, ↓reduceIte, Nat.reduceEqDiff, Nat.reduceAdd, Nat.reduceMul, Nat.reduceSub, Nat.reduceLT, Nat.reduceLeDiff, Nat.reduceBEq, reduceCtorEq, BEq.rfl, Int.reduceLT, Int.reduceLE, Int.reduceAdd, Int.reduceToNat, Int.reduceSub, Int.reduceMul, Int.reduceNeg, Int.reduceEq, *, supX_run] | (with_reducible refine And.intro (by first | omega | assumption | rfl) ?_))
  all_goals (refine Fin_intro [] tupOf_one ?_; simp +contextual -implicitDefEqProofs (disch := first | exact dsc _ | fail) only [go_sem, push_cast, ↓reduceIte, Nat.reduceEqDiff, Nat.reduceAdd, Nat.reduceMul, Nat.reduceSub, Nat.reduceLT, Nat.reduceLeDiff, Nat.reduceBEq, reduceCtorEq, BEq.rfl, Int.reduceLT, Int.reduceLE, Int.reduceAdd, Int.reduceToNat, Int.reduceSub, Int.reduceMul, Int.reduceNeg, Int.reduceEq])
  all_goals (by_cases hz : v.value = nm0 <;> simp_all [validV, VALID] <;> first | omega | grind)
attribute [go_sem ↓] t_vote_Valid
end Go.Am.Tryz
set_option maxRecDepth 100000
set_option linter.unusedSimpArgs false
set_option linter.unusedVariables false
set_option pp.maxSteps 2000
namespace Go.Am.Tryz
open Go.Proofs
def sp_manytime_Size (args : List AV) : RM CallSpec := pureS [.int .i64 2] (.int .i64 370)
attribute [go_sem] sp_manytime_Size
theorem t_manytime_Size : FnG Tryz.prog 77 [.int .i64 2] [] (.val (.int .i64 370)) = True := by
  refine eq_true ?_
  refine FnG_of_W (sp := spL []) (tb := tbOf Tryz.prog) (tbOf_ok _) (by kernel_rfl) Tryz.func77 (c := _) rfl (by kernel_rfl) (by kernel_rfl) (Nat.le_of_ble_eq_true rfl) (rs := [.tmp 2]) rfl ?_
  unfold FnW
  repeat' (first | (with_reducible intro _) | (with_reducible refine wcond_not ?_) | ((with_reducible refine wcond_dec (fun _ => ?_) (fun _ => ?_)) <;> try (exfalso; omega)) | (with_reducible refine wcond_split (fun _ => ?_) (fun _ => ?_)) | (with_reducible refine draw_ro (by kernel_rfl) ?_) | simp +contextual -implicitDefEqProofs (disch := first | exact dsc _ | fail) only [go_sem, ↓reduceIte, Nat.reduceEqDiff, Nat.reduceAdd, Nat.reduceMul, Nat.reduceSub, Nat.reduceLT, Nat.reduceLeDiff, Nat.reduceBEq, reduceCtorEq, BEq.rfl, Int.reduceLT, Int.reduceLE, Int.reduceAdd, Int.reduceToNat, Int.reduceSub, Int.reduceMul, Int.reduceNeg, Int.reduceEq, *] | (with_reducible refine And.intro (by first | omega | assumption | rfl) ?_))
  all_goals ((first | refine Fin_v1 (by rfl) ?_ | refine Fin_vn (by intro h; cases h) ?_ | refine Fin_f1 (by rfl) ?_ | refine Fin_fn (by intro h; cases h) (fun _ => rfl) ?_ | refine Fin_u1 (by rfl) ?_ | refine Fin_un (by intro h; cases h) ?_); try simp +contextual -implicitDefEqProofs (disch := first | exact dsc _ | fail) only [go_sem, push_cast, ↓reduceIte, Nat.reduceEqDiff, Nat.reduceAdd, Nat.reduceMul, Nat.reduceSub, Nat.reduceLT, Nat.reduceLeDiff, Nat.reduceBEq, reduceCtorEq, BEq.rfl, Int.reduceLT, Int.reduceLE, Int.reduceAdd, Int.reduceToNat, Int.reduceSub, Int.reduceMul, Int.reduceNeg, Int.reduceEq, *])
attribute [go_sem ↓] t_manytime_Size
def outB (l : List UInt8) (ok : Bool) : Out := .fresh fun r => (.tup [.own r [] 1 0 l.length l.length, .bool ok], [(r, .row 5 1 (bys l) 0)])
attribute [go_sem] outB
def sp_vote_Encode (args : List AV) : RM CallSpec := match args with
  | [a] => (opt (voteD a)).bind fun v => if validV v = true then mkS [voteA v] [] (outB (encV v) true) false else mkS [voteA v] [] (.val (.tup [.nils, .bool false])) false
  | _ => .fail
attribute [go_sem] sp_vote_Encode
theorem t_vote_Encode_n {v : Vote} (h : validV v = false) : FnG Tryz.prog 76 [voteA v] [] (.val (.tup [.nils, .bool false])) = True := by
  refine eq_true ?_
  refine FnG_of_W (sp := spL [(103, sp_vote_Valid), (26, sp_codec_AppendUint)]) (tb := tbOf Tryz.prog) (tbOf_ok _) (by kernel_rfl) Tryz.func76 (c := _) rfl (by kernel_rfl) (by kernel_rfl) (Nat.le_of_ble_eq_true rfl) (rs := [.tmp 2, .tmp 3]) rfl ?_
  unfold FnW
  repeat' (first | (with_reducible intro _) | (with_reducible refine wcond_not ?_) | ((with_reducible refine wcond_dec (fun _ => ?_) (fun _ => ?_)) <;> try (exfalso; omega)) | (with_reducible refine wcond_split (fun _ => ?_) (fun _ => ?_)) | (with_reducible refine draw_ro (by kernel_rfl) ?_) | simp +contextual -implicitDefEqProofs (disch := first | exact dsc _ | fail) only [go_sem, ↓reduceIte, Nat.reduceEqDiff, Nat.reduceAdd, Nat.reduceMul, Nat.reduceSub, Nat.reduceLT, Nat.reduceLeDiff, Nat.reduceBEq, reduceCtorEq, BEq.rfl, Int.reduceLT, Int.reduceLE, Int.reduceAdd, Int.reduceToNat, Int.reduceSub, Int.reduceMul, Int.reduceNeg, Int.reduceEq, h, *] | (with_reducible refine And.intro (by first | omega | assumption | rfl) ?_))
  all_goals ((first | refine Fin_v1 (by rfl) ?_ | refine Fin_vn (by intro h; cases h) ?_ | refine Fin_f1 (by rfl) ?_ | refine Fin_fn (by intro h; cases h) (fun _ => rfl) ?_ | refine Fin_u1 (by rfl) ?_ | refine Fin_un (by intro h; cases h) ?_); try simp +contextual -implicitDefEqProofs (disch := first | exact dsc _ | fail) only [go_sem, push_cast, ↓reduceIte, Nat.reduceEqDiff, Nat.reduceAdd, Nat.reduceMul, Nat.reduceSub, Nat.reduceLT, Nat.reduceLeDiff, Nat.reduceBEq, reduceCtorEq, BEq.rfl, Int.reduceLT, Int.reduceLE, Int.reduceAdd, Int.reduceToNat, Int.reduceSub, Int.reduceMul, Int.reduceNeg, Int.reduceEq, *])
attribute [go_sem ↓] t_vote_Encode_n
theorem t_vote_Encode_y {v : Vote} (h : validV v = true) : FnG Tryz.prog 76 [voteA v] [] (outB (encV v) true) = True := by
  refine eq_true ?_
  refine FnG_of_W (sp := spL [(103, sp_vote_Valid), (26, sp_codec_AppendUint)]) (tb := tbOf Tryz.prog) (tbOf_ok _) (by kernel_rfl) Tryz.func76 (c := _) rfl (by kernel_rfl) (by kernel_rfl) (Nat.le_of_ble_eq_true rfl) (rs := [.tmp 2, .tmp 3]) rfl ?_
  unfold FnW
  repeat' (first | (with_reducible intro _) | (with_reducible refine wcond_not ?_) | ((with_reducible refine wcond_dec (fun _ => ?_) (fun _ => ?_)) <;> try (exfalso; omega)) | (with_reducible refine wcond_split (fun _ => ?_) (fun _ => ?_)) | (with_reducible refine draw_ro (by kernel_rfl) ?_) | simp +contextual -implicitDefEqProofs (disch := first | exact dsc _ | fail) only [go_sem, ↓reduceIte, Nat.reduceEqDiff, Nat.reduceAdd, Nat.reduceMul, Nat.reduceSub, Nat.reduceLT, Nat.reduceLeDiff, Nat.reduceBEq, reduceCtorEq, BEq.rfl, Int.reduceLT, Int.reduceLE, Int.reduceAdd, Int.reduceToNat, Int.reduceSub, Int.reduceMul, Int.reduceNeg, Int.reduceEq, h, *] | (with_reducible refine And.intro (by first | omega | assumption | rfl) ?_))
  all_goals ((first | refine Fin_v1 (by rfl) ?_ | refine Fin_vn (by intro h; cases h) ?_ | refine Fin_f1 (by rfl) ?_ | refine Fin_fn (by intro h; cases h) (fun _ => rfl) ?_ | refine Fin_u1 (by rfl) ?_ | refine Fin_un (by intro h; cases h) ?_); try simp +contextual -implicitDefEqProofs (disch := first | exact dsc _ | fail) only [go_sem, push_cast, ↓reduceIte, Nat.reduceEqDiff, Nat.reduceAdd, Nat.reduceMul, Nat.reduceSub, Nat.reduceLT, Nat.reduceLeDiff, Nat.reduceBEq, reduceCtorEq, BEq.rfl, Int.reduceLT, Int.reduceLE, Int.reduceAdd, Int.reduceToNat, Int.reduceSub, Int.reduceMul, Int.reduceNeg, Int.reduceEq, *, encV_len])
  simp [encV]
attribute [go_sem ↓] t_vote_Encode_y
end Go.Am.Tryz
set_option maxRecDepth 100000
set_option linter.unusedSimpArgs false
set_option linter.unusedVariables false
set_option pp.maxSteps 2000
namespace Go.Am.Tryz
open Go.Proofs
def sp_bytealg_Compare (args : List AV) : RM CallSpec := match args with
  | [a, b] => (bysM a).bind fun l => (bysM b).bind fun m => pureS [.list (bys l), .list (bys m)] (.int .i64 (Lib.compareBytes l m))
  | _ => .fail
attribute [go_sem] sp_bytealg_Compare
theorem t_bytealg_Compare (l m : List UInt8) : FnG Tryz.prog 102 [.list (bys l), .list (bys m)] [] (.val (.int .i64 (Lib.compareBytes l m))) = True :=
  eq_true (cmp_FnG Tryz.func102 (by kernel_rfl) (by kernel_rfl) (by kernel_rfl) (by kernel_rfl) l m)
attribute [go_sem ↓] t_bytealg_Compare
def sp_bytes_Compare (args : List AV) : RM CallSpec := match args with
  | [a, b] => (bysM a).bind fun l => (bysM b).bind fun m => pureS [.list (bys l), .list (bys m)] (.int .i64 (Lib.compareBytes l m))
  | _ => .fail
attribute [go_sem] sp_bytes_Compare
theorem t_bytes_Compare (l m : List UInt8) : FnG Tryz.prog 72 [.list (bys l), .list (bys m)] [] (.val (.int .i64 (Lib.compareBytes l m))) = True := by
  refine eq_true ?_
  refine FnG_of_W (sp := spL [(102, sp_bytealg_Compare)]) (tb := tbOf Tryz.prog) (tbOf_ok _) (by kernel_rfl) Tryz.func72 (c := _) rfl (by kernel_rfl) (by kernel_rfl) (Nat.le_of_ble_eq_true rfl) (rs := [.tmp 4]) rfl ?_
  unfold FnW
  repeat' (first | (with_reducible intro _) | (with_reducible refine wcond_not ?_) | ((with_reducible refine wcond_dec (fun _ => ?_) (fun _ => ?_)) <;> try (exfalso; omega)) | (with_reducible refine wcond_split (fun _ => ?_) (fun _ => ?_)) | (with_reducible refine draw_ro (by kernel_rfl) ?_) | simp +contextual -implicitDefEqProofs (disch := first | exact dsc _ | fail) only [go_sem, ↓reduceIte, Nat.reduceEqDiff, Nat.reduceAdd, Nat.reduceMul, Nat.reduceSub, Nat.reduceLT, Nat.reduceLeDiff, Nat.reduceBEq, reduceCtorEq, BEq.rfl, Int.reduceLT, Int.reduceLE, Int.reduceAdd, Int.reduceToNat, Int.reduceSub, Int.reduceMul, Int.reduceNeg, Int.reduceEq, *] | (with_reducible refine And.intro (by first | omega | assumption | rfl) ?_))
  all_goals ((first | refine Fin_v1 (by rfl) ?_ | refine Fin_vn (by intro h; cases h) ?_ | refine Fin_f1 (by rfl) ?_ | refine Fin_fn (by intro h; cases h) (fun _ => rfl) ?_ | refine Fin_u1 (by rfl) ?_ | refine Fin_un (by intro h; cases h) ?_); try simp +contextual -implicitDefEqProofs (disch := first | exact dsc _ | fail) only [go_sem, push_cast, ↓reduceIte, Nat.reduceEqDiff, Nat.reduceAdd, Nat.reduceMul, Nat.reduceSub, Nat.reduceLT, Nat.reduceLeDiff, Nat.reduceBEq, reduceCtorEq, BEq.rfl, Int.reduceLT, Int.reduceLE, Int.reduceAdd, Int.reduceToNat, Int.reduceSub, Int.reduceMul, Int.reduceNeg, Int.reduceEq, *])
attribute [go_sem ↓] t_bytes_Compare
def sp_hash_Number (args : List AV) : RM CallSpec := match args with
  | [a] => (opt (nmD a)).bind fun n => pureS [nmA n] (.int .u64 (unbe n.l))
  | _ => .fail
attribute [go_sem] sp_hash_Number
theorem t_hash_Number (n : Nm) : FnG Tryz.prog 135 [nmA n] [] (.val (.int .u64 (unbe n.l))) = True := by
  refine eq_true ?_
  refine FnG_of_W (sp := spL []) (tb := tbOf Tryz.prog) (tbOf_ok _) (by kernel_rfl) Tryz.func135 (c := _) rfl (by kernel_rfl) (by kernel_rfl) (Nat.le_of_ble_eq_true rfl) (rs := [.tmp 2]) rfl ?_
  unfold FnW
  repeat' (first | (with_reducible intro _) | (with_reducible refine wcond_not ?_) | ((with_reducible refine wcond_dec (fun _ => ?_) (fun _ => ?_)) <;> try (exfalso; omega)) | (with_reducible refine wcond_split (fun _ => ?_) (fun _ => ?_)) | (with_reducible refine draw_ro (by kernel_rfl) ?_) | simp +contextual -implicitDefEqProofs (disch := first | exact dsc _ | fail) only [go_sem, ↓reduceIte, Nat.reduceEqDiff, Nat.reduceAdd, Nat.reduceMul, Nat.reduceSub, Nat.reduceLT, Nat.reduceLeDiff, Nat.reduceBEq, reduceCtorEq, BEq.rfl, Int.reduceLT, Int.reduceLE, Int.reduceAdd, Int.reduceToNat, Int.reduceSub, Int.reduceMul, Int.reduceNeg, Int.reduceEq, *] | (with_reducible refine And.intro (by first | omega | assumption | rfl) ?_))
  refine wloopW (α := Nat) (fun i => ⟨[(6, .agg (bys n.l)), (7, .int .i64 i), (3, .int .u64 (unbe (n.l.take i)))], []⟩) (fun i => i ≤ 8) (fun i => 8 - i) 0 (Nat.zero_le _) ?_ ?_
  · simp [wk, wkT, lk, entsOk, unbe_nil]
  · intro i hi
    have hi : i ≤ 8 := hi
    by_cases h8 : i < 8
    · obtain ⟨c, hc⟩ : ∃ c, n.l[i]? = some c := ⟨_, List.getElem?_eq_getElem (by rw [n.h]; exact h8)⟩
      have hb : unbe (n.l.take i) * 256 < 18446744073709551616 := by
        have h1 := unbe_lt (n.l.take i)
        have h2 : (n.l.take i).length = i := by simp [n.h]; omega
        rw [h2] at h1
        have h3 : 256 ^ i ≤ 256 ^ 7 := Nat.pow_le_pow_right (by decide) (by omega)
        have h4 : (256 : Nat) ^ 7 = 72057594037927936 := by decide
        omega
      repeat' (first | (with_reducible intro _) | (with_reducible refine wcond_not ?_) | ((with_reducible refine wcond_dec (fun _ => ?_) (fun _ => ?_)) <;> try (exfalso; omega)) | (with_reducible refine wcond_split (fun _ => ?_) (fun _ => ?_)) | (with_reducible refine draw_ro (by kernel_rfl) ?_) | simp +contextual -implicitDefEqProofs (disch := first | exact dsc _ | fail) only [go_sem, ↓reduceIte, Nat.reduceEqDiff, Nat.reduceAdd, Nat.reduceMul, Nat.reduceSub, Nat.reduceLT, Nat.reduceLeDiff, Nat.reduceBEq, reduceCtorEq, BEq.rfl, Int.reduceLT, Int.reduceLE, Int.reduceAdd, Int.reduceToNat, Int.reduceSub, Int.reduceMul, Int.reduceNeg, Int.reduceEq, *, hc, shl8_run _ hb, or8_run _ _ hb] | (with_reducible refine And.intro (by first | omega | assumption | rfl) ?_))
      refine round_intro (i + 1) (by show i + 1 ≤ 8; omega) (by show 8 - (i + 1) < 8 - i; omega) ?_
      simp +contextual -implicitDefEqProofs (disch := first | exact dsc _ | fail) only [go_sem, push_cast, ↓reduceIte, Nat.reduceEqDiff, Nat.reduceAdd, Nat.reduceMul, Nat.reduceSub, Nat.reduceLT, Nat.reduceLeDiff, Nat.reduceBEq, reduceCtorEq, BEq.rfl, Int.reduceLT, Int.reduceLE, Int.reduceAdd, Int.reduceToNat, Int.reduceSub, Int.reduceMul, Int.reduceNeg, Int.reduceEq]
      have : n.l.take (i + 1) = n.l.take i ++ [c] := by rw [List.take_add_one, hc]; rfl
      rw [this, unbe_snoc]
      simp
    · have : i = 8 := by omega
      subst this
      repeat' (first | (with_reducible intro _) | (with_reducible refine wcond_not ?_) | ((with_reducible refine wcond_dec (fun _ => ?_) (fun _ => ?_)) <;> try (exfalso; omega)) | (with_reducible refine wcond_split (fun _ => ?_) (fun _ => ?_)) | (with_reducible refine draw_ro (by kernel_rfl) ?_) | simp +contextual -implicitDefEqProofs (disch := first | exact dsc _ | fail) only [go_sem, ↓reduceIte, Nat.reduceEqDiff, Nat.reduceAdd, Nat.reduceMul, Nat.reduceSub, Nat.reduceLT, Nat.reduceLeDiff, Nat.reduceBEq, reduceCtorEq, BEq.rfl, Int.reduceLT, Int.reduceLE, Int.reduceAdd, Int.reduceToNat, Int.reduceSub, Int.reduceMul, Int.reduceNeg, Int.reduceEq, *] | (with_reducible refine And.intro (by first | omega | assumption | rfl) ?_))
      all_goals ((first | refine Fin_v1 (by rfl) ?_ | refine Fin_vn (by intro h; cases h) ?_ | refine Fin_f1 (by rfl) ?_ | refine Fin_fn (by intro h; cases h) (fun _ => rfl) ?_ | refine Fin_u1 (by rfl) ?_ | refine Fin_un (by intro h; cases h) ?_); try simp +contextual -implicitDefEqProofs (disch := first | exact dsc _ | fail) only [go_sem, push_cast, ↓reduceIte, Nat.reduceEqDiff, Nat.reduceAdd, Nat.reduceMul, Nat.reduceSub, Nat.reduceLT, Nat.reduceLeDiff, Nat.reduceBEq, reduceCtorEq, BEq.rfl, Int.reduceLT, Int.reduceLE, Int.reduceAdd, Int.reduceToNat, Int.reduceSub, Int.reduceMul, Int.reduceNeg, Int.reduceEq, *])
attribute [go_sem ↓] t_hash_Number
def sp_hash_Less (args : List AV) : RM CallSpec := match args with
  | [x0, x1] => (opt (nmD x0)).bind fun a => (opt (nmD x1)).bind fun b => pureS [nmA a, nmA b] (.bool (ltN a b))
  | _ => .fail
attribute [go_sem] sp_hash_Less
theorem t_hash_Less (a : Nm) (b : Nm)  : FnG Tryz.prog 124 [nmA a, nmA b] [] (.val (.bool (ltN a b))) = True := by
  refine eq_true ?_
  refine FnG_of_W (sp := spL [(135, sp_hash_Number)]) (tb := tbOf Tryz.prog) (tbOf_ok _) (by kernel_rfl) Tryz.func124 (c := _) rfl (by kernel_rfl) (by kernel_rfl) (Nat.le_of_ble_eq_true rfl) (rs := [.tmp 4]) rfl ?_
  unfold FnW
  repeat' (first | (with_reducible intro _) | (with_reducible refine wcond_not ?_) | ((with_reducible refine wcond_dec (fun _ => ?_) (fun _ => ?_)) <;> try (exfalso; omega)) | (with_reducible refine wcond_split (fun _ => ?_) (fun _ => ?_)) | (with_reducible refine draw_ro (by kernel_rfl) ?_) | simp +contextual -implicitDefEqProofs (disch := first | exact dsc _ | fail) only [go_sem, ↓reduceIte, Nat.reduceEqDiff, Nat.reduceAdd, Nat.reduceMul, Nat.reduceSub, Nat.reduceLT, Nat.reduceLeDiff, Nat.reduceBEq, reduceCtorEq, BEq.rfl, Int.reduceLT, Int.reduceLE, Int.reduceAdd, Int.reduceToNat, Int.reduceSub, Int.reduceMul, Int.reduceNeg, Int.reduceEq, *] | (with_reducible refine And.intro (by first | omega | assumption | rfl) ?_))
  all_goals ((first | refine Fin_v1 (by rfl) ?_ | refine Fin_vn (by intro h; cases h) ?_ | refine Fin_f1 (by rfl) ?_ | refine Fin_fn (by intro h; cases h) (fun _ => rfl) ?_ | refine Fin_u1 (by rfl) ?_ | refine Fin_un (by intro h; cases h) ?_); try simp +contextual -implicitDefEqProofs (disch := first | exact dsc _ | fail) only [go_sem, push_cast, ↓reduceIte, Nat.reduceEqDiff, Nat.reduceAdd, Nat.reduceMul, Nat.reduceSub, Nat.reduceLT, Nat.reduceLeDiff, Nat.reduceBEq, reduceCtorEq, BEq.rfl, Int.reduceLT, Int.reduceLE, Int.reduceAdd, Int.reduceToNat, Int.reduceSub, Int.reduceMul, Int.reduceNeg, Int.reduceEq, *])
  all_goals (simp_all [ltN])
attribute [go_sem ↓] t_hash_Less
def la (a : Vote) : List Int := [a.slot, a.round, a.kind, a.signer, a.choice]
def sp_vote_Less (args : List AV) : RM CallSpec := match args with
  | [x0, x1] => (opt (voteD x0)).bind fun a => (opt (voteD x1)).bind fun b => pureS [voteA a, voteA b] (.bool (voteLt a b))
  | _ => .fail
attribute [go_sem] sp_vote_Less
theorem t_vote_Less (a : Vote) (b : Vote)  : FnG Tryz.prog 104 [voteA a, voteA b] [] (.val (.bool (voteLt a b))) = True := by
  refine eq_true ?_
  refine FnG_of_W (sp := spL [(124, sp_hash_Less)]) (tb := tbOf Tryz.prog) (tbOf_ok _) (by kernel_rfl) Tryz.func104 (c := _) rfl (by kernel_rfl) (by kernel_rfl) (Nat.le_of_ble_eq_true rfl) (rs := [.tmp 4]) rfl ?_
  unfold FnW
  repeat' (first | (with_reducible intro _) | (with_reducible refine wcond_not ?_) | ((with_reducible refine wcond_dec (fun _ => ?_) (fun _ => ?_)) <;> try (exfalso; omega)) | (with_reducible refine wcond_split (fun _ => ?_) (fun _ => ?_)) | (with_reducible refine draw_ro (by kernel_rfl) ?_) | simp +contextual -implicitDefEqProofs (disch := first | exact dsc _ | fail) only [go_sem, ↓reduceIte, Nat.reduceEqDiff, Nat.reduceAdd, Nat.reduceMul, Nat.reduceSub, Nat.reduceLT, Nat.reduceLeDiff, Nat.reduceBEq, reduceCtorEq, BEq.rfl, Int.reduceLT, Int.reduceLE, Int.reduceAdd, Int.reduceToNat, Int.reduceSub, Int.reduceMul, Int.reduceNeg, Int.reduceEq, *] | (with_reducible refine And.intro (by first | omega | assumption | rfl) ?_))
  · rename_i r0 r1 h01 hp r2 h2 r3 h3
    refine wloopW (α := Nat) (fun i => ⟨[(40, .int .i64 i), (5, .ptr r2 []), (6, .ptr r3 []), (2, .ptr r0 []), (3, .ptr r1 [])], [(r3, .box (.agg ((la b).map (AV.int .i64)))), (r2, .box (.agg ((la a).map (AV.int .i64)))), (r1, .box (voteA b)), (r0, .box (voteA a))]⟩)
      (fun i => i ≤ 5 ∧ (la a).take i = (la b).take i) (fun i => 5 - i) 0 ⟨by omega, rfl⟩ ?_ ?_
    · simp +contextual -implicitDefEqProofs (disch := first | exact dsc _ | fail) only [go_sem, push_cast, ↓reduceIte, Nat.reduceEqDiff, Nat.reduceAdd, Nat.reduceMul, Nat.reduceSub, Nat.reduceLT, Nat.reduceLeDiff, Nat.reduceBEq, reduceCtorEq, BEq.rfl, Int.reduceLT, Int.reduceLE, Int.reduceAdd, Int.reduceToNat, Int.reduceSub, Int.reduceMul, Int.reduceNeg, Int.reduceEq, la, voteA, List.map_cons, List.map_nil, *]
      all_goals rfl
    · intro i hi
      by_cases h5 : i = 5
      · have he := hi.2
        subst h5
        simp only [la, List.take_succ_cons, List.take_zero, List.cons.injEq, and_true] at he
        repeat' (first | (with_reducible intro _) | (with_reducible refine wcond_not ?_) | ((with_reducible refine wcond_dec (fun _ => ?_) (fun _ => ?_)) <;> try (exfalso; omega)) | (with_reducible refine wcond_split (fun _ => ?_) (fun _ => ?_)) | (with_reducible refine draw_ro (by kernel_rfl) ?_) | simp +contextual -implicitDefEqProofs (disch := first | exact dsc _ | fail) only [go_sem, ↓reduceIte, Nat.reduceEqDiff, Nat.reduceAdd, Nat.reduceMul, Nat.reduceSub, Nat.reduceLT, Nat.reduceLeDiff, Nat.reduceBEq, reduceCtorEq, BEq.rfl, Int.reduceLT, Int.reduceLE, Int.reduceAdd, Int.reduceToNat, Int.reduceSub, Int.reduceMul, Int.reduceNeg, Int.reduceEq, *, la] | (with_reducible refine And.intro (by first | omega | assumption | rfl) ?_))
        all_goals ((first | refine Fin_v1 (by rfl) ?_ | refine Fin_vn (by intro h; cases h) ?_ | refine Fin_f1 (by rfl) ?_ | refine Fin_fn (by intro h; cases h) (fun _ => rfl) ?_ | refine Fin_u1 (by rfl) ?_ | refine Fin_un (by intro h; cases h) ?_); try simp +contextual -implicitDefEqProofs (disch := first | exact dsc _ | fail) only [go_sem, push_cast, ↓reduceIte, Nat.reduceEqDiff, Nat.reduceAdd, Nat.reduceMul, Nat.reduceSub, Nat.reduceLT, Nat.reduceLeDiff, Nat.reduceBEq, reduceCtorEq, BEq.rfl, Int.reduceLT, Int.reduceLE, Int.reduceAdd, Int.reduceToNat, Int.reduceSub, Int.reduceMul, Int.reduceNeg, Int.reduceEq, *])
        all_goals simp_all [voteLt, lexI]
      · obtain h | h | h | h | h : i = 0 ∨ i = 1 ∨ i = 2 ∨ i = 3 ∨ i = 4 := by have := hi.1; omega
        · have he := hi.2
          subst h
          simp only [la, List.take_succ_cons, List.take_zero, List.cons.injEq, and_true] at he
          repeat' (first | (with_reducible intro _) | (with_reducible refine wcond_not ?_) | ((with_reducible refine wcond_dec (fun _ => ?_) (fun _ => ?_)) <;> try (exfalso; omega)) | (with_reducible refine wcond_split (fun _ => ?_) (fun _ => ?_)) | (with_reducible refine draw_ro (by kernel_rfl) ?_) | simp +contextual -implicitDefEqProofs (disch := first | exact dsc _ | fail) only [go_sem, ↓reduceIte, Nat.reduceEqDiff, Nat.reduceAdd, Nat.reduceMul, Nat.reduceSub, Nat.reduceLT, Nat.reduceLeDiff, Nat.reduceBEq, reduceCtorEq, BEq.rfl, Int.reduceLT, Int.reduceLE, Int.reduceAdd, Int.reduceToNat, Int.reduceSub, Int.reduceMul, Int.reduceNeg, Int.reduceEq, *, la] | (with_reducible refine And.intro (by first | omega | assumption | rfl) ?_))
          · refine round_intro 1 (by simp_all [la]) (by simp) ?_
            simp +contextual -implicitDefEqProofs (disch := first | exact dsc _ | fail) only [go_sem, push_cast, ↓reduceIte, Nat.reduceEqDiff, Nat.reduceAdd, Nat.reduceMul, Nat.reduceSub, Nat.reduceLT, Nat.reduceLeDiff, Nat.reduceBEq, reduceCtorEq, BEq.rfl, Int.reduceLT, Int.reduceLE, Int.reduceAdd, Int.reduceToNat, Int.reduceSub, Int.reduceMul, Int.reduceNeg, Int.reduceEq, la, *]
            all_goals simp_all
          · ((first | refine Fin_v1 (by rfl) ?_ | refine Fin_vn (by intro h; cases h) ?_ | refine Fin_f1 (by rfl) ?_ | refine Fin_fn (by intro h; cases h) (fun _ => rfl) ?_ | refine Fin_u1 (by rfl) ?_ | refine Fin_un (by intro h; cases h) ?_); try simp +contextual -implicitDefEqProofs (disch := first | exact dsc _ | fail) only [go_sem, push_cast, ↓reduceIte, Nat.reduceEqDiff, Nat.reduceAdd, Nat.reduceMul, Nat.reduceSub, Nat.reduceLT, Nat.reduceLeDiff, Nat.reduceBEq, reduceCtorEq, BEq.rfl, Int.reduceLT, Int.reduceLE, Int.reduceAdd, Int.reduceToNat, Int.reduceSub, Int.reduceMul, Int.reduceNeg, Int.reduceEq, *])
            simp_all [voteLt, lexI]
        
        · have he := hi.2
          subst h
          simp only [la, List.take_succ_cons, List.take_zero, List.cons.injEq, and_true] at he
          repeat' (first | (with_reducible intro _) | (with_reducible refine wcond_not ?_) | ((with_reducible refine wcond_dec (fun _ => ?_) (fun _ => ?_)) <;> try (exfalso; omega)) | (with_reducible refine wcond_split (fun _ => ?_) (fun _ => ?_)) | (with_reducible refine draw_ro (by kernel_rfl) ?_) | simp +contextual -implicitDefEqProofs (disch := first | exact dsc _ | fail) only [go_sem, ↓reduceIte, Nat.reduceEqDiff, Nat.reduceAdd, Nat.reduceMul, Nat.reduceSub, Nat.reduceLT, Nat.reduceLeDiff, Nat.reduceBEq, reduceCtorEq, BEq.rfl, Int.reduceLT, Int.reduceLE, Int.reduceAdd, Int.reduceToNat, Int.reduceSub, Int.reduceMul, Int.reduceNeg, Int.reduceEq, *, la] | (with_reducible refine And.intro (by first | omega | assumption | rfl) ?_))
          · refine round_intro 2 (by simp_all [la]) (by simp) ?_
            simp +contextual -implicitDefEqProofs (disch := first | exact dsc _ | fail) only [go_sem, push_cast, ↓reduceIte, Nat.reduceEqDiff, Nat.reduceAdd, Nat.reduceMul, Nat.reduceSub, Nat.reduceLT, Nat.reduceLeDiff, Nat.reduceBEq, reduceCtorEq, BEq.rfl, Int.reduceLT, Int.reduceLE, Int.reduceAdd, Int.reduceToNat, Int.reduceSub, Int.reduceMul, Int.reduceNeg, Int.reduceEq, la, *]
            all_goals simp_all
          · ((first | refine Fin_v1 (by rfl) ?_ | refine Fin_vn (by intro h; cases h) ?_ | refine Fin_f1 (by rfl) ?_ | refine Fin_fn (by intro h; cases h) (fun _ => rfl) ?_ | refine Fin_u1 (by rfl) ?_ | refine Fin_un (by intro h; cases h) ?_); try simp +contextual -implicitDefEqProofs (disch := first | exact dsc _ | fail) only [go_sem, push_cast, ↓reduceIte, Nat.reduceEqDiff, Nat.reduceAdd, Nat.reduceMul, Nat.reduceSub, Nat.reduceLT, Nat.reduceLeDiff, Nat.reduceBEq, reduceCtorEq, BEq.rfl, Int.reduceLT, Int.reduceLE, Int.reduceAdd, Int.reduceToNat, Int.reduceSub, Int.reduceMul, Int.reduceNeg, Int.reduceEq, *])
            simp_all [voteLt, lexI]
        
        · have he := hi.2
          subst h
          simp only [la, List.take_succ_cons, List.take_zero, List.cons.injEq, and_true] at he
          repeat' (first | (with_reducible intro _) | (with_reducible refine wcond_not ?_) | ((with_reducible refine wcond_dec (fun _ => ?_) (fun _ => ?_)) <;> try (exfalso; omega)) | (with_reducible refine wcond_split (fun _ => ?_) (fun _ => ?_)) | (with_reducible refine draw_ro (by kernel_rfl) ?_) | simp +contextual -implicitDefEqProofs (disch := first | exact dsc _ | fail) only [go_sem, ↓reduceIte, Nat.reduceEqDiff, Nat.reduceAdd, Nat.reduceMul, Nat.reduceSub, Nat.reduceLT, Nat.reduceLeDiff, Nat.reduceBEq, reduceCtorEq, BEq.rfl, Int.reduceLT, Int.reduceLE, Int.reduceAdd, Int.reduceToNat, Int.reduceSub, Int.reduceMul, Int.reduceNeg, Int.reduceEq, *, la] | (with_reducible refine And.intro (by first | omega | assumption | rfl) ?_))
          · refine round_intro 3 (by simp_all [la]) (by simp) ?_
            simp +contextual -implicitDefEqProofs (disch := first | exact dsc _ | fail) only [go_sem, push_cast, ↓reduceIte, Nat.reduceEqDiff, Nat.reduceAdd, Nat.reduceMul, Nat.reduceSub, Nat.reduceLT, Nat.reduceLeDiff, Nat.reduceBEq, reduceCtorEq, BEq.rfl, Int.reduceLT, Int.reduceLE, Int.reduceAdd, Int.reduceToNat, Int.reduceSub, Int.reduceMul, Int.reduceNeg, Int.reduceEq, la, *]
            all_goals simp_all
          · ((first | refine Fin_v1 (by rfl) ?_ | refine Fin_vn (by intro h; cases h) ?_ | refine Fin_f1 (by rfl) ?_ | refine Fin_fn (by intro h; cases h) (fun _ => rfl) ?_ | refine Fin_u1 (by rfl) ?_ | refine Fin_un (by intro h; cases h) ?_); try simp +contextual -implicitDefEqProofs (disch := first | exact dsc _ | fail) only [go_sem, push_cast, ↓reduceIte, Nat.reduceEqDiff, Nat.reduceAdd, Nat.reduceMul, Nat.reduceSub, Nat.reduceLT, Nat.reduceLeDiff, Nat.reduceBEq, reduceCtorEq, BEq.rfl, Int.reduceLT, Int.reduceLE, Int.reduceAdd, Int.reduceToNat, Int.reduceSub, Int.reduceMul, Int.reduceNeg, Int.reduceEq, *])
            simp_all [voteLt, lexI]
        
        · have he := hi.2
          subst h
          simp only [la, List.take_succ_cons, List.take_zero, List.cons.injEq, and_true] at he
          repeat' (first | (with_reducible intro _) | (with_reducible refine wcond_not ?_) | ((with_reducible refine wcond_dec (fun _ => ?_) (fun _ => ?_)) <;> try (exfalso; omega)) | (with_reducible refine wcond_split (fun _ => ?_) (fun _ => ?_)) | (with_reducible refine draw_ro (by kernel_rfl) ?_) | simp +contextual -implicitDefEqProofs (disch := first | exact dsc _ | fail) only [go_sem, ↓reduceIte, Nat.reduceEqDiff, Nat.reduceAdd, Nat.reduceMul, Nat.reduceSub, Nat.reduceLT, Nat.reduceLeDiff, Nat.reduceBEq, reduceCtorEq, BEq.rfl, Int.reduceLT, Int.reduceLE, Int.reduceAdd, Int.reduceToNat, Int.reduceSub, Int.reduceMul, Int.reduceNeg, Int.reduceEq, *, la] | (with_reducible refine And.intro (by first | omega | assumption | rfl) ?_))
          · refine round_intro 4 (by simp_all [la]) (by simp) ?_
            simp +contextual -implicitDefEqProofs (disch := first | exact dsc _ | fail) only [go_sem, push_cast, ↓reduceIte, Nat.reduceEqDiff, Nat.reduceAdd, Nat.reduceMul, Nat.reduceSub, Nat.reduceLT, Nat.reduceLeDiff, Nat.reduceBEq, reduceCtorEq, BEq.rfl, Int.reduceLT, Int.reduceLE, Int.reduceAdd, Int.reduceToNat, Int.reduceSub, Int.reduceMul, Int.reduceNeg, Int.reduceEq, la, *]
            all_goals simp_all
          · ((first | refine Fin_v1 (by rfl) ?_ | refine Fin_vn (by intro h; cases h) ?_ | refine Fin_f1 (by rfl) ?_ | refine Fin_fn (by intro h; cases h) (fun _ => rfl) ?_ | refine Fin_u1 (by rfl) ?_ | refine Fin_un (by intro h; cases h) ?_); try simp +contextual -implicitDefEqProofs (disch := first | exact dsc _ | fail) only [go_sem, push_cast, ↓reduceIte, Nat.reduceEqDiff, Nat.reduceAdd, Nat.reduceMul, Nat.reduceSub, Nat.reduceLT, Nat.reduceLeDiff, Nat.reduceBEq, reduceCtorEq, BEq.rfl, Int.reduceLT, Int.reduceLE, Int.reduceAdd, Int.reduceToNat, Int.reduceSub, Int.reduceMul, Int.reduceNeg, Int.reduceEq, *])
            simp_all [voteLt, lexI]
        
        · have he := hi.2
          subst h
          simp only [la, List.take_succ_cons, List.take_zero, List.cons.injEq, and_true] at he
          repeat' (first | (with_reducible intro _) | (with_reducible refine wcond_not ?_) | ((with_reducible refine wcond_dec (fun _ => ?_) (fun _ => ?_)) <;> try (exfalso; omega)) | (with_reducible refine wcond_split (fun _ => ?_) (fun _ => ?_)) | (with_reducible refine draw_ro (by kernel_rfl) ?_) | simp +contextual -implicitDefEqProofs (disch := first | exact dsc _ | fail) only [go_sem, ↓reduceIte, Nat.reduceEqDiff, Nat.reduceAdd, Nat.reduceMul, Nat.reduceSub, Nat.reduceLT, Nat.reduceLeDiff, Nat.reduceBEq, reduceCtorEq, BEq.rfl, Int.reduceLT, Int.reduceLE, Int.reduceAdd, Int.reduceToNat, Int.reduceSub, Int.reduceMul, Int.reduceNeg, Int.reduceEq, *, la] | (with_reducible refine And.intro (by first | omega | assumption | rfl) ?_))
          · refine round_intro 5 (by simp_all [la]) (by simp) ?_
            simp +contextual -implicitDefEqProofs (disch := first | exact dsc _ | fail) only [go_sem, push_cast, ↓reduceIte, Nat.reduceEqDiff, Nat.reduceAdd, Nat.reduceMul, Nat.reduceSub, Nat.reduceLT, Nat.reduceLeDiff, Nat.reduceBEq, reduceCtorEq, BEq.rfl, Int.reduceLT, Int.reduceLE, Int.reduceAdd, Int.reduceToNat, Int.reduceSub, Int.reduceMul, Int.reduceNeg, Int.reduceEq, la, *]
            all_goals simp_all
          · ((first | refine Fin_v1 (by rfl) ?_ | refine Fin_vn (by intro h; cases h) ?_ | refine Fin_f1 (by rfl) ?_ | refine Fin_fn (by intro h; cases h) (fun _ => rfl) ?_ | refine Fin_u1 (by rfl) ?_ | refine Fin_un (by intro h; cases h) ?_); try simp +contextual -implicitDefEqProofs (disch := first | exact dsc _ | fail) only [go_sem, push_cast, ↓reduceIte, Nat.reduceEqDiff, Nat.reduceAdd, Nat.reduceMul, Nat.reduceSub, Nat.reduceLT, Nat.reduceLeDiff, Nat.reduceBEq, reduceCtorEq, BEq.rfl, Int.reduceLT, Int.reduceLE, Int.reduceAdd, Int.reduceToNat, Int.reduceSub, Int.reduceMul, Int.reduceNeg, Int.reduceEq, *])
            simp_all [voteLt, lexI]
        
  · ((first | refine Fin_v1 (by rfl) ?_ | refine Fin_vn (by intro h; cases h) ?_ | refine Fin_f1 (by rfl) ?_ | refine Fin_fn (by intro h; cases h) (fun _ => rfl) ?_ | refine Fin_u1 (by rfl) ?_ | refine Fin_un (by intro h; cases h) ?_); try simp +contextual -implicitDefEqProofs (disch := first | exact dsc _ | fail) only [go_sem, push_cast, ↓reduceIte, Nat.reduceEqDiff, Nat.reduceAdd, Nat.reduceMul, Nat.reduceSub, Nat.reduceLT, Nat.reduceLeDiff, Nat.reduceBEq, reduceCtorEq, BEq.rfl, Int.reduceLT, Int.reduceLE, Int.reduceAdd, Int.reduceToNat, Int.reduceSub, Int.reduceMul, Int.reduceNeg, Int.reduceEq, *])
    simp_all [voteLt]
attribute [go_sem ↓] t_vote_Less
def sp_signed_Less (args : List AV) : RM CallSpec := match args with
  | [x0, x1] => (opt (sgnD x0)).bind fun a => (opt (sgnD x1)).bind fun b => pureS [sgnA a, sgnA b] (.bool (sgnLt a b))
  | _ => .fail
attribute [go_sem] sp_signed_Less
theorem t_signed_Less (a : Sgn) (b : Sgn)  : FnG Tryz.prog 78 [sgnA a, sgnA b] [] (.val (.bool (sgnLt a b))) = True := by
  refine eq_true ?_
  refine FnG_of_W (sp := spL [(104, sp_vote_Less), (72, sp_bytes_Compare)]) (tb := tbOf Tryz.prog) (tbOf_ok _) (by kernel_rfl) Tryz.func78 (c := _) rfl (by kernel_rfl) (by kernel_rfl) (Nat.le_of_ble_eq_true rfl) (rs := [.tmp 4]) rfl ?_
  unfold FnW
  repeat' (first | (with_reducible intro _) | (with_reducible refine wcond_not ?_) | ((with_reducible refine wcond_dec (fun _ => ?_) (fun _ => ?_)) <;> try (exfalso; omega)) | (with_reducible refine wcond_split (fun _ => ?_) (fun _ => ?_)) | (with_reducible refine draw_ro (by kernel_rfl) ?_) | simp +contextual -implicitDefEqProofs (disch := first | exact dsc _ | fail) only [go_sem, ↓reduceIte, Nat.reduceEqDiff, Nat.reduceAdd, Nat.reduceMul, Nat.reduceSub, Nat.reduceLT, Nat.reduceLeDiff, Nat.reduceBEq, reduceCtorEq, BEq.rfl, Int.reduceLT, Int.reduceLE, Int.reduceAdd, Int.reduceToNat, Int.reduceSub, Int.reduceMul, Int.reduceNeg, Int.reduceEq, *] | (with_reducible refine And.intro (by first | omega | assumption | rfl) ?_))
  all_goals ((first | refine Fin_v1 (by rfl) ?_ | refine Fin_vn (by intro h; cases h) ?_ | refine Fin_f1 (by rfl) ?_ | refine Fin_fn (by intro h; cases h) (fun _ => rfl) ?_ | refine Fin_u1 (by rfl) ?_ | refine Fin_un (by intro h; cases h) ?_); try simp +contextual -implicitDefEqProofs (disch := first | exact dsc _ | fail) only [go_sem, push_cast, ↓reduceIte, Nat.reduceEqDiff, Nat.reduceAdd, Nat.reduceMul, Nat.reduceSub, Nat.reduceLT, Nat.reduceLeDiff, Nat.reduceBEq, reduceCtorEq, BEq.rfl, Int.reduceLT, Int.reduceLE, Int.reduceAdd, Int.reduceToNat, Int.reduceSub, Int.reduceMul, Int.reduceNeg, Int.reduceEq, *])
  all_goals (simp_all [sgnLt])
attribute [go_sem ↓] t_signed_Less
end Go.Am.Tryz
set_option maxRecDepth 100000
set_option linter.unusedSimpArgs false
set_option linter.unusedVariables false
set_option pp.maxSteps 2000
namespace Go.Am.Tryz
open Go.Proofs
def sp_codec_AppendBytes (args : List AV) : RM CallSpec := match args with
  | [b, p] => (bysM b).bind fun l => (bysM p).bind fun t => if okT t = true then mkS [.list (bys l), .list (bys t)] [] (outB (l ++ encT t) true) false else mkS [.list (bys l), .list (bys t)] [] (.val (.tup [.nils, .bool false])) false
  | _ => .fail
attribute [go_sem] sp_codec_AppendBytes
theorem t_codec_AppendBytes_n {l t : List UInt8} (h : okT t = false) (hl : t.length ≤ 35184372080000) : FnG Tryz.prog 28 [.list (bys l), .list (bys t)] [] (.val (.tup [.nils, .bool false])) = True := by
  refine eq_true ?_
  refine FnG_of_W (sp := spL [(26, sp_codec_AppendUint)]) (tb := tbOf Tryz.prog) (tbOf_ok _) (by kernel_rfl) Tryz.func28 (c := _) rfl (by kernel_rfl) (by kernel_rfl) (Nat.le_of_ble_eq_true rfl) (rs := [.tmp 4, .tmp 5]) rfl ?_
  unfold FnW
  have h : ¬ t.length ≤ 65535 := by simpa [okT] using h
  repeat' (first | (with_reducible intro _) | (with_reducible refine wcond_not ?_) | ((with_reducible refine wcond_dec (fun _ => ?_) (fun _ => ?_)) <;> try (exfalso; omega)) | (with_reducible refine wcond_split (fun _ => ?_) (fun _ => ?_)) | (with_reducible refine draw_ro (by kernel_rfl) ?_) | simp +contextual -implicitDefEqProofs (disch := first | exact dsc _ | fail) only [go_sem, ↓reduceIte, Nat.reduceEqDiff, Nat.reduceAdd, Nat.reduceMul, Nat.reduceSub, Nat.reduceLT, Nat.reduceLeDiff, Nat.reduceBEq, reduceCtorEq, BEq.rfl, Int.reduceLT, Int.reduceLE, Int.reduceAdd, Int.reduceToNat, Int.reduceSub, Int.reduceMul, Int.reduceNeg, Int.reduceEq, *] | (with_reducible refine And.intro (by first | omega | assumption | rfl) ?_))
  all_goals ((first | refine Fin_v1 (by rfl) ?_ | refine Fin_vn (by intro h; cases h) ?_ | refine Fin_f1 (by rfl) ?_ | refine Fin_fn (by intro h; cases h) (fun _ => rfl) ?_ | refine Fin_u1 (by rfl) ?_ | refine Fin_un (by intro h; cases h) ?_); try simp +contextual -implicitDefEqProofs (disch := first | exact dsc _ | fail) only [go_sem, push_cast, ↓reduceIte, Nat.reduceEqDiff, Nat.reduceAdd, Nat.reduceMul, Nat.reduceSub, Nat.reduceLT, Nat.reduceLeDiff, Nat.reduceBEq, reduceCtorEq, BEq.rfl, Int.reduceLT, Int.reduceLE, Int.reduceAdd, Int.reduceToNat, Int.reduceSub, Int.reduceMul, Int.reduceNeg, Int.reduceEq, *])
attribute [go_sem ↓] t_codec_AppendBytes_n
theorem t_codec_AppendBytes_y {l t : List UInt8} (h : okT t = true) (hl : l.length ≤ 35184372000000) : FnG Tryz.prog 28 [.list (bys l), .list (bys t)] [] (outB (l ++ encT t) true) = True := by
  refine eq_true ?_
  refine FnG_of_W (sp := spL [(26, sp_codec_AppendUint)]) (tb := tbOf Tryz.prog) (tbOf_ok _) (by kernel_rfl) Tryz.func28 (c := _) rfl (by kernel_rfl) (by kernel_rfl) (Nat.le_of_ble_eq_true rfl) (rs := [.tmp 4, .tmp 5]) rfl ?_
  unfold FnW
  have h : t.length ≤ 65535 := by simpa [okT] using h
  repeat' (first | (with_reducible intro _) | (with_reducible refine wcond_not ?_) | ((with_reducible refine wcond_dec (fun _ => ?_) (fun _ => ?_)) <;> try (exfalso; omega)) | (with_reducible refine wcond_split (fun _ => ?_) (fun _ => ?_)) | (with_reducible refine draw_ro (by kernel_rfl) ?_) | simp +contextual -implicitDefEqProofs (disch := first | exact dsc _ | fail) only [go_sem, ↓reduceIte, Nat.reduceEqDiff, Nat.reduceAdd, Nat.reduceMul, Nat.reduceSub, Nat.reduceLT, Nat.reduceLeDiff, Nat.reduceBEq, reduceCtorEq, BEq.rfl, Int.reduceLT, Int.reduceLE, Int.reduceAdd, Int.reduceToNat, Int.reduceSub, Int.reduceMul, Int.reduceNeg, Int.reduceEq, *] | (with_reducible refine And.intro (by first | omega | assumption | rfl) ?_))
  all_goals ((first | refine Fin_v1 (by rfl) ?_ | refine Fin_vn (by intro h; cases h) ?_ | refine Fin_f1 (by rfl) ?_ | refine Fin_fn (by intro h; cases h) (fun _ => rfl) ?_ | refine Fin_u1 (by rfl) ?_ | refine Fin_un (by intro h; cases h) ?_); try simp +contextual -implicitDefEqProofs (disch := first | exact dsc _ | fail) only [go_sem, push_cast, ↓reduceIte, Nat.reduceEqDiff, Nat.reduceAdd, Nat.reduceMul, Nat.reduceSub, Nat.reduceLT, Nat.reduceLeDiff, Nat.reduceBEq, reduceCtorEq, BEq.rfl, Int.reduceLT, Int.reduceLE, Int.reduceAdd, Int.reduceToNat, Int.reduceSub, Int.reduceMul, Int.reduceNeg, Int.reduceEq, *, encT_len])
  simp [encT]
  try omega
attribute [go_sem ↓] t_codec_AppendBytes_y
def sp_signed_Encode (args : List AV) : RM CallSpec := match args with
  | [a] => (opt (sgnD a)).bind fun s => if okS s = true then mkS [sgnA s] [] (outB (encS s) true) false else mkS [sgnA s] [] (.val (.tup [.nils, .bool false])) false
  | _ => .fail
attribute [go_sem] sp_signed_Encode
theorem t_signed_Encode_n {s : Sgn} (h : okS s = false) (hl : s.sig.length ≤ 35184372080000) : FnG Tryz.prog 27 [sgnA s] [] (.val (.tup [.nils, .bool false])) = True := by
  refine eq_true ?_
  refine FnG_of_W (sp := spL [(76, sp_vote_Encode), (77, sp_manytime_Size)]) (tb := tbOf Tryz.prog) (tbOf_ok _) (by kernel_rfl) Tryz.func27 (c := _) rfl (by kernel_rfl) (by kernel_rfl) (Nat.le_of_ble_eq_true rfl) (rs := [.tmp 2, .tmp 3]) rfl ?_
  unfold FnW
  repeat' (first | (with_reducible intro _) | (with_reducible refine wcond_not ?_) | ((with_reducible refine wcond_dec (fun _ => ?_) (fun _ => ?_)) <;> try (exfalso; omega)) | (with_reducible refine wcond_split (fun _ => ?_) (fun _ => ?_)) | (with_reducible refine draw_ro (by kernel_rfl) ?_) | simp +contextual -implicitDefEqProofs (disch := first | exact dsc _ | fail) only [go_sem, ↓reduceIte, Nat.reduceEqDiff, Nat.reduceAdd, Nat.reduceMul, Nat.reduceSub, Nat.reduceLT, Nat.reduceLeDiff, Nat.reduceBEq, reduceCtorEq, BEq.rfl, Int.reduceLT, Int.reduceLE, Int.reduceAdd, Int.reduceToNat, Int.reduceSub, Int.reduceMul, Int.reduceNeg, Int.reduceEq, *] | (with_reducible refine And.intro (by first | omega | assumption | rfl) ?_))
  all_goals ((first | refine Fin_v1 (by rfl) ?_ | refine Fin_vn (by intro h; cases h) ?_ | refine Fin_f1 (by rfl) ?_ | refine Fin_fn (by intro h; cases h) (fun _ => rfl) ?_ | refine Fin_u1 (by rfl) ?_ | refine Fin_un (by intro h; cases h) ?_); try simp +contextual -implicitDefEqProofs (disch := first | exact dsc _ | fail) only [go_sem, push_cast, ↓reduceIte, Nat.reduceEqDiff, Nat.reduceAdd, Nat.reduceMul, Nat.reduceSub, Nat.reduceLT, Nat.reduceLeDiff, Nat.reduceBEq, reduceCtorEq, BEq.rfl, Int.reduceLT, Int.reduceLE, Int.reduceAdd, Int.reduceToNat, Int.reduceSub, Int.reduceMul, Int.reduceNeg, Int.reduceEq, *])
  all_goals (try simp_all [okS])
  all_goals (try omega)
attribute [go_sem ↓] t_signed_Encode_n
theorem t_signed_Encode_y {s : Sgn} (h : okS s = true) : FnG Tryz.prog 27 [sgnA s] [] (outB (encS s) true) = True := by
  refine eq_true ?_
  refine FnG_of_W (sp := spL [(76, sp_vote_Encode), (77, sp_manytime_Size)]) (tb := tbOf Tryz.prog) (tbOf_ok _) (by kernel_rfl) Tryz.func27 (c := _) rfl (by kernel_rfl) (by kernel_rfl) (Nat.le_of_ble_eq_true rfl) (rs := [.tmp 2, .tmp 3]) rfl ?_
  unfold FnW
  obtain ⟨h1, h2⟩ : validV s.vote = true ∧ s.sig.length = 370 := by simpa [okS] using h
  repeat' (first | (with_reducible intro _) | (with_reducible refine wcond_not ?_) | ((with_reducible refine wcond_dec (fun _ => ?_) (fun _ => ?_)) <;> try (exfalso; omega)) | (with_reducible refine wcond_split (fun _ => ?_) (fun _ => ?_)) | (with_reducible refine draw_ro (by kernel_rfl) ?_) | simp +contextual -implicitDefEqProofs (disch := first | exact dsc _ | fail) only [go_sem, ↓reduceIte, Nat.reduceEqDiff, Nat.reduceAdd, Nat.reduceMul, Nat.reduceSub, Nat.reduceLT, Nat.reduceLeDiff, Nat.reduceBEq, reduceCtorEq, BEq.rfl, Int.reduceLT, Int.reduceLE, Int.reduceAdd, Int.reduceToNat, Int.reduceSub, Int.reduceMul, Int.reduceNeg, Int.reduceEq, *] | (with_reducible refine And.intro (by first | omega | assumption | rfl) ?_))
  all_goals ((first | refine Fin_v1 (by rfl) ?_ | refine Fin_vn (by intro h; cases h) ?_ | refine Fin_f1 (by rfl) ?_ | refine Fin_fn (by intro h; cases h) (fun _ => rfl) ?_ | refine Fin_u1 (by rfl) ?_ | refine Fin_un (by intro h; cases h) ?_); try simp +contextual -implicitDefEqProofs (disch := first | exact dsc _ | fail) only [go_sem, push_cast, ↓reduceIte, Nat.reduceEqDiff, Nat.reduceAdd, Nat.reduceMul, Nat.reduceSub, Nat.reduceLT, Nat.reduceLeDiff, Nat.reduceBEq, reduceCtorEq, BEq.rfl, Int.reduceLT, Int.reduceLE, Int.reduceAdd, Int.reduceToNat, Int.reduceSub, Int.reduceMul, Int.reduceNeg, Int.reduceEq, *])
  all_goals simp_all [encS, encV_len]
attribute [go_sem ↓] t_signed_Encode_y
end Go.Am.Tryz
set_option maxRecDepth 100000
set_option linter.unusedSimpArgs false
set_option linter.unusedVariables false
set_option pp.maxSteps 2000
namespace Go.Am.Tryz
open Go.Proofs
def sp_snapshot_ordered (args : List AV) : RM CallSpec := match args with
  | [x0] => (viewM x0).bind fun v => pureS [viewA v] (.bool (ordW v))
  | _ => .fail
attribute [go_sem] sp_snapshot_ordered
theorem t_snapshot_ordered (v : View) (h1 : v.votes.length ≤ 1000000000) (h2 : v.texts.length ≤ 1000000000) : FnG Tryz.prog 29 [viewA v] [] (.val (.bool (ordW v))) = True := by
  refine eq_true ?_
  refine FnG_of_W (sp := spL [(78, sp_signed_Less), (72, sp_bytes_Compare)]) (tb := tbOf Tryz.prog) (tbOf_ok _) (by kernel_rfl) Tryz.func29 (c := _) rfl (by kernel_rfl) (by kernel_rfl) (Nat.le_of_ble_eq_true rfl) (rs := [.tmp 2]) rfl ?_
  unfold FnW
  repeat' (first | (with_reducible intro _) | (with_reducible refine wcond_not ?_) | ((with_reducible refine wcond_dec (fun _ => ?_) (fun _ => ?_)) <;> try (exfalso; omega)) | (with_reducible refine wcond_split (fun _ => ?_) (fun _ => ?_)) | (with_reducible refine draw_ro (by kernel_rfl) ?_) | simp +contextual -implicitDefEqProofs (disch := first | exact dsc _ | fail) only [go_sem, ↓reduceIte, Nat.reduceEqDiff, Nat.reduceAdd, Nat.reduceMul, Nat.reduceSub, Nat.reduceLT, Nat.reduceLeDiff, Nat.reduceBEq, reduceCtorEq, BEq.rfl, Int.reduceLT, Int.reduceLE, Int.reduceAdd, Int.reduceToNat, Int.reduceSub, Int.reduceMul, Int.reduceNeg, Int.reduceEq, *] | (with_reducible refine And.intro (by first | omega | assumption | rfl) ?_))
  rename_i r0
  refine wloopW (α := Nat) (fun i => ⟨[(1, .ptr r0 []), (3, .int .i64 (i + 1))], [(r0, .box (viewA v))]⟩) (fun i => (i = 0 ∨ i < v.votes.length) ∧ chainB sgnLt (v.votes.take (i + 1)) = true) (fun i => v.votes.length - i) 0 ⟨.inl rfl, chain_short (by simp; omega)⟩ ?_ ?_
  · simp +contextual -implicitDefEqProofs (disch := first | exact dsc _ | fail) only [go_sem, push_cast, ↓reduceIte, Nat.reduceEqDiff, Nat.reduceAdd, Nat.reduceMul, Nat.reduceSub, Nat.reduceLT, Nat.reduceLeDiff, Nat.reduceBEq, reduceCtorEq, BEq.rfl, Int.reduceLT, Int.reduceLE, Int.reduceAdd, Int.reduceToNat, Int.reduceSub, Int.reduceMul, Int.reduceNeg, Int.reduceEq, *]
    all_goals rfl
  · intro i hi
    obtain ⟨hi1, hi2⟩ := hi
    by_cases hlt : i + 1 < v.votes.length
    · obtain ⟨a, ha⟩ := get_lt (l := v.votes) (n := i) (by omega)
      obtain ⟨b, hb⟩ := get_lt hlt
      have hc := chain_take (lt := sgnLt) ha hb
      have hi' : ((i : Int) + 1).toNat = i + 1 := by omega
      repeat' (first | (with_reducible intro _) | (with_reducible refine wcond_not ?_) | ((with_reducible refine wcond_dec (fun _ => ?_) (fun _ => ?_)) <;> try (exfalso; omega)) | (with_reducible refine wcond_split (fun _ => ?_) (fun _ => ?_)) | (with_reducible refine draw_ro (by kernel_rfl) ?_) | simp +contextual -implicitDefEqProofs (disch := first | exact dsc _ | fail) only [go_sem, ↓reduceIte, Nat.reduceEqDiff, Nat.reduceAdd, Nat.reduceMul, Nat.reduceSub, Nat.reduceLT, Nat.reduceLeDiff, Nat.reduceBEq, reduceCtorEq, BEq.rfl, Int.reduceLT, Int.reduceLE, Int.reduceAdd, Int.reduceToNat, Int.reduceSub, Int.reduceMul, Int.reduceNeg, Int.reduceEq, *, hi'] | (with_reducible refine And.intro (by first | omega | assumption | rfl) ?_))
      · refine round_intro (i + 1) ⟨.inr hlt, by simp_all⟩ (by show v.votes.length - (i + 1) < v.votes.length - i; omega) ?_
        simp +contextual -implicitDefEqProofs (disch := first | exact dsc _ | fail) only [go_sem, push_cast, ↓reduceIte, Nat.reduceEqDiff, Nat.reduceAdd, Nat.reduceMul, Nat.reduceSub, Nat.reduceLT, Nat.reduceLeDiff, Nat.reduceBEq, reduceCtorEq, BEq.rfl, Int.reduceLT, Int.reduceLE, Int.reduceAdd, Int.reduceToNat, Int.reduceSub, Int.reduceMul, Int.reduceNeg, Int.reduceEq, *]
        all_goals rfl
      · ((first | refine Fin_v1 (by rfl) ?_ | refine Fin_vn (by intro h; cases h) ?_ | refine Fin_f1 (by rfl) ?_ | refine Fin_fn (by intro h; cases h) (fun _ => rfl) ?_ | refine Fin_u1 (by rfl) ?_ | refine Fin_un (by intro h; cases h) ?_); try simp +contextual -implicitDefEqProofs (disch := first | exact dsc _ | fail) only [go_sem, push_cast, ↓reduceIte, Nat.reduceEqDiff, Nat.reduceAdd, Nat.reduceMul, Nat.reduceSub, Nat.reduceLT, Nat.reduceLeDiff, Nat.reduceBEq, reduceCtorEq, BEq.rfl, Int.reduceLT, Int.reduceLE, Int.reduceAdd, Int.reduceToNat, Int.reduceSub, Int.reduceMul, Int.reduceNeg, Int.reduceEq, *])
        simp [ordW, chain_bad ha hb (lt := sgnLt) (by assumption)]
    · have hv : chainB sgnLt v.votes = true := by
        rw [List.take_of_length_le (by omega)] at hi2; exact hi2
      repeat' (first | (with_reducible intro _) | (with_reducible refine wcond_not ?_) | ((with_reducible refine wcond_dec (fun _ => ?_) (fun _ => ?_)) <;> try (exfalso; omega)) | (with_reducible refine wcond_split (fun _ => ?_) (fun _ => ?_)) | (with_reducible refine draw_ro (by kernel_rfl) ?_) | simp +contextual -implicitDefEqProofs (disch := first | exact dsc _ | fail) only [go_sem, ↓reduceIte, Nat.reduceEqDiff, Nat.reduceAdd, Nat.reduceMul, Nat.reduceSub, Nat.reduceLT, Nat.reduceLeDiff, Nat.reduceBEq, reduceCtorEq, BEq.rfl, Int.reduceLT, Int.reduceLE, Int.reduceAdd, Int.reduceToNat, Int.reduceSub, Int.reduceMul, Int.reduceNeg, Int.reduceEq, *] | (with_reducible refine And.intro (by first | omega | assumption | rfl) ?_))
      refine wloopW (α := Nat) (fun i => ⟨[(1, .ptr r0 []), (4, .int .i64 (i + 1))], [(r0, .box (viewA v))]⟩) (fun i => (i = 0 ∨ i < v.texts.length) ∧ chainB txtLt (v.texts.take (i + 1)) = true) (fun i => v.texts.length - i) 0 ⟨.inl rfl, chain_short (by simp; omega)⟩ ?_ ?_
      · simp +contextual -implicitDefEqProofs (disch := first | exact dsc _ | fail) only [go_sem, push_cast, ↓reduceIte, Nat.reduceEqDiff, Nat.reduceAdd, Nat.reduceMul, Nat.reduceSub, Nat.reduceLT, Nat.reduceLeDiff, Nat.reduceBEq, reduceCtorEq, BEq.rfl, Int.reduceLT, Int.reduceLE, Int.reduceAdd, Int.reduceToNat, Int.reduceSub, Int.reduceMul, Int.reduceNeg, Int.reduceEq, *]
        all_goals rfl
      · intro i hi
        obtain ⟨hi1, hi2⟩ := hi
        by_cases hlt : i + 1 < v.texts.length
        · obtain ⟨a, ha⟩ := get_lt (l := v.texts) (n := i) (by omega)
          obtain ⟨b, hb⟩ := get_lt hlt
          have hc := chain_take (lt := txtLt) ha hb
          have hi' : ((i : Int) + 1).toNat = i + 1 := by omega
          repeat' (first | (with_reducible intro _) | (with_reducible refine wcond_not ?_) | ((with_reducible refine wcond_dec (fun _ => ?_) (fun _ => ?_)) <;> try (exfalso; omega)) | (with_reducible refine wcond_split (fun _ => ?_) (fun _ => ?_)) | (with_reducible refine draw_ro (by kernel_rfl) ?_) | simp +contextual -implicitDefEqProofs (disch := first | exact dsc _ | fail) only [go_sem, ↓reduceIte, Nat.reduceEqDiff, Nat.reduceAdd, Nat.reduceMul, Nat.reduceSub, Nat.reduceLT, Nat.reduceLeDiff, Nat.reduceBEq, reduceCtorEq, BEq.rfl, Int.reduceLT, Int.reduceLE, Int.reduceAdd, Int.reduceToNat, Int.reduceSub, Int.reduceMul, Int.reduceNeg, Int.reduceEq, *, hi'] | (with_reducible refine And.intro (by first | omega | assumption | rfl) ?_))
          · ((first | refine Fin_v1 (by rfl) ?_ | refine Fin_vn (by intro h; cases h) ?_ | refine Fin_f1 (by rfl) ?_ | refine Fin_fn (by intro h; cases h) (fun _ => rfl) ?_ | refine Fin_u1 (by rfl) ?_ | refine Fin_un (by intro h; cases h) ?_); try simp +contextual -implicitDefEqProofs (disch := first | exact dsc _ | fail) only [go_sem, push_cast, ↓reduceIte, Nat.reduceEqDiff, Nat.reduceAdd, Nat.reduceMul, Nat.reduceSub, Nat.reduceLT, Nat.reduceLeDiff, Nat.reduceBEq, reduceCtorEq, BEq.rfl, Int.reduceLT, Int.reduceLE, Int.reduceAdd, Int.reduceToNat, Int.reduceSub, Int.reduceMul, Int.reduceNeg, Int.reduceEq, *])
            simp [ordW, chain_bad ha hb (lt := txtLt) (by simp [txtLt]; omega)]
          · refine round_intro (i + 1) ⟨.inr hlt, by rw [hc, hi2]; simp [txtLt]; omega⟩ (by show v.texts.length - (i + 1) < v.texts.length - i; omega) ?_
            simp +contextual -implicitDefEqProofs (disch := first | exact dsc _ | fail) only [go_sem, push_cast, ↓reduceIte, Nat.reduceEqDiff, Nat.reduceAdd, Nat.reduceMul, Nat.reduceSub, Nat.reduceLT, Nat.reduceLeDiff, Nat.reduceBEq, reduceCtorEq, BEq.rfl, Int.reduceLT, Int.reduceLE, Int.reduceAdd, Int.reduceToNat, Int.reduceSub, Int.reduceMul, Int.reduceNeg, Int.reduceEq, *]
            all_goals rfl
        · have hv2 : chainB txtLt v.texts = true := by
            rw [List.take_of_length_le (by omega)] at hi2; exact hi2
          repeat' (first | (with_reducible intro _) | (with_reducible refine wcond_not ?_) | ((with_reducible refine wcond_dec (fun _ => ?_) (fun _ => ?_)) <;> try (exfalso; omega)) | (with_reducible refine wcond_split (fun _ => ?_) (fun _ => ?_)) | (with_reducible refine draw_ro (by kernel_rfl) ?_) | simp +contextual -implicitDefEqProofs (disch := first | exact dsc _ | fail) only [go_sem, ↓reduceIte, Nat.reduceEqDiff, Nat.reduceAdd, Nat.reduceMul, Nat.reduceSub, Nat.reduceLT, Nat.reduceLeDiff, Nat.reduceBEq, reduceCtorEq, BEq.rfl, Int.reduceLT, Int.reduceLE, Int.reduceAdd, Int.reduceToNat, Int.reduceSub, Int.reduceMul, Int.reduceNeg, Int.reduceEq, *] | (with_reducible refine And.intro (by first | omega | assumption | rfl) ?_))
          all_goals ((first | refine Fin_v1 (by rfl) ?_ | refine Fin_vn (by intro h; cases h) ?_ | refine Fin_f1 (by rfl) ?_ | refine Fin_fn (by intro h; cases h) (fun _ => rfl) ?_ | refine Fin_u1 (by rfl) ?_ | refine Fin_un (by intro h; cases h) ?_); try simp +contextual -implicitDefEqProofs (disch := first | exact dsc _ | fail) only [go_sem, push_cast, ↓reduceIte, Nat.reduceEqDiff, Nat.reduceAdd, Nat.reduceMul, Nat.reduceSub, Nat.reduceLT, Nat.reduceLeDiff, Nat.reduceBEq, reduceCtorEq, BEq.rfl, Int.reduceLT, Int.reduceLE, Int.reduceAdd, Int.reduceToNat, Int.reduceSub, Int.reduceMul, Int.reduceNeg, Int.reduceEq, *])
          all_goals simp [ordW, hv, hv2]
attribute [go_sem ↓] t_snapshot_ordered
end Go.Am.Tryz
set_option maxRecDepth 100000
set_option linter.unusedSimpArgs false
set_option linter.unusedVariables false
set_option pp.maxSteps 2000
namespace Go.Am.Tryz
open Go.Proofs
def outE (l : List UInt8) : Out := .fresh fun r => (.tup [.own r [] 1 0 l.length l.length, .int .i64 0], [(r, .row 5 1 (bys l) 0)])
attribute [go_sem] outE
def encOut (v : View) : Out := if errW v = 0 then outE (bytesW v) else .val (.tup [.nils, .int .i64 (errW v)])
def smallW (v : View) : Prop := v.votes.length ≤ 1000000 ∧ v.texts.length ≤ 1000000 ∧ (∀ s, s ∈ v.votes → s.sig.length ≤ 1000000) ∧ ∀ t, t ∈ v.texts → t.length ≤ 10000000
def sp_snapshot_Encode (args : List AV) : RM CallSpec := match args with
  | [a] => (viewM a).bind fun v => if errW v = 0 then mkS [viewA v] [] (outE (bytesW v)) false else mkS [viewA v] [] (.val (.tup [.nils, .int .i64 (errW v)])) false
  | _ => .fail
attribute [go_sem] sp_snapshot_Encode
theorem snapEnc_ok {v : View} (hs : smallW v) : FnG Tryz.prog 9 [viewA v] [] (encOut v) := by
  refine FnG_of_W (sp := spL [(26, sp_codec_AppendUint), (27, sp_signed_Encode), (28, sp_codec_AppendBytes), (29, sp_snapshot_ordered)]) (tb := tbOf Tryz.prog) (tbOf_ok _) (by kernel_rfl) Tryz.func9 (c := _) rfl (by kernel_rfl) (by kernel_rfl) (Nat.le_of_ble_eq_true rfl) (rs := [.tmp 2, .tmp 3]) rfl ?_
  unfold FnW
  obtain ⟨hs1, hs2, hs3, hs4⟩ := hs
  repeat' (first | (with_reducible intro _) | (with_reducible refine wcond_not ?_) | ((with_reducible refine wcond_dec (fun _ => ?_) (fun _ => ?_)) <;> try (exfalso; omega)) | (with_reducible refine wcond_split (fun _ => ?_) (fun _ => ?_)) | (with_reducible refine draw_ro (by kernel_rfl) ?_) | simp +contextual -implicitDefEqProofs (disch := first | exact dsc _ | fail) only [go_sem, ↓reduceIte, Nat.reduceEqDiff, Nat.reduceAdd, Nat.reduceMul, Nat.reduceSub, Nat.reduceLT, Nat.reduceLeDiff, Nat.reduceBEq, reduceCtorEq, BEq.rfl, Int.reduceLT, Int.reduceLE, Int.reduceAdd, Int.reduceToNat, Int.reduceSub, Int.reduceMul, Int.reduceNeg, Int.reduceEq, *] | (with_reducible refine And.intro (by first | omega | assumption | rfl) ?_))
  rename_i r0 r1 h01
  refine wloopW (α := Nat × Id × Nat) (fun p => ⟨[(1, .ptr r0 []), (19, .list (v.votes.map sgnA)), (20, .int .i64 v.votes.length), (21, .int .i64 p.1), (4, .own p.2.1 [] 1 0 (4 + 393 * p.1) p.2.2)],
      [(p.2.1, .row 5 1 (bys (be v.votes.length 4 ++ (v.votes.take p.1).flatMap encS)) 0), (r0, .box (viewA v))]⟩)
    (fun p => p.1 ≤ v.votes.length ∧ (v.votes.take p.1).all okS = true ∧ 4 + 393 * p.1 ≤ p.2.2 ∧ ¬ p.2.1 = r0 ∧ ¬ r0 = p.2.1) (fun p => v.votes.length - p.1) (0, r1, 4) ?_ ?_ ?_
  · simp_all
  · simp +contextual -implicitDefEqProofs (disch := first | exact dsc _ | fail) only [go_sem, push_cast, ↓reduceIte, Nat.reduceEqDiff, Nat.reduceAdd, Nat.reduceMul, Nat.reduceSub, Nat.reduceLT, Nat.reduceLeDiff, Nat.reduceBEq, reduceCtorEq, BEq.rfl, Int.reduceLT, Int.reduceLE, Int.reduceAdd, Int.reduceToNat, Int.reduceSub, Int.reduceMul, Int.reduceNeg, Int.reduceEq, *]
    all_goals simp
  · rintro ⟨i, r, mc⟩ ⟨hi, hall, hmc, hne, hne'⟩
    have hi : i ≤ v.votes.length := hi
    have hall : (v.votes.take i).all okS = true := hall
    have hmc : 4 + 393 * i ≤ mc := hmc
    have hne : ¬ r = r0 := hne
    have hne' : ¬ r0 = r := hne'
    have hL := votes_len hi hall
    by_cases hlt : i < v.votes.length
    · obtain ⟨s, hs⟩ := get_lt hlt
      have hsig := hs3 s (List.mem_of_getElem? hs)
      have hE : (encS s).length ≤ 1000023 := by rw [encS_len]; omega
      repeat' (first | (with_reducible intro _) | (with_reducible refine wcond_not ?_) | ((with_reducible refine wcond_dec (fun _ => ?_) (fun _ => ?_)) <;> try (exfalso; omega)) | (with_reducible refine wcond_split (fun _ => ?_) (fun _ => ?_)) | (with_reducible refine draw_ro (by kernel_rfl) ?_) | simp +contextual -implicitDefEqProofs (disch := first | exact dsc _ | fail) only [go_sem, ↓reduceIte, Nat.reduceEqDiff, Nat.reduceAdd, Nat.reduceMul, Nat.reduceSub, Nat.reduceLT, Nat.reduceLeDiff, Nat.reduceBEq, reduceCtorEq, BEq.rfl, Int.reduceLT, Int.reduceLE, Int.reduceAdd, Int.reduceToNat, Int.reduceSub, Int.reduceMul, Int.reduceNeg, Int.reduceEq, *, hL] | (with_reducible refine And.intro (by first | omega | assumption | rfl) ?_))
      · rename_i r2 h2 hok r3 h3 r4 h4
        have he := encS_ok hok
        refine round_intro (i + 1, r4, 4 + 393 * i + 393) ⟨hlt, all_snoc hs hall hok, by show 4 + 393 * (i + 1) ≤ 4 + 393 * i + 393; omega, by simp_all⟩ (by show v.votes.length - (i + 1) < v.votes.length - i; omega) ?_
        simp +contextual -implicitDefEqProofs (disch := first | exact dsc _ | fail) only [go_sem, push_cast, ↓reduceIte, Nat.reduceEqDiff, Nat.reduceAdd, Nat.reduceMul, Nat.reduceSub, Nat.reduceLT, Nat.reduceLeDiff, Nat.reduceBEq, reduceCtorEq, BEq.rfl, Int.reduceLT, Int.reduceLE, Int.reduceAdd, Int.reduceToNat, Int.reduceSub, Int.reduceMul, Int.reduceNeg, Int.reduceEq, *]
        rw [flat_snoc encS hs, List.append_assoc]
        repeat' (first | (apply And.intro) | rfl | omega)
      · rename_i r2 h2 hok
        have hok : okS s = false := by simpa using hok
        have he : errW v = 1 := by simp [errW, all_bad hs hok]
        rw [show encOut v = .val (.tup [.nils, .int .i64 1]) from by simp [encOut, he]]
        ((first | refine Fin_v1 (by rfl) ?_ | refine Fin_vn (by intro h; cases h) ?_ | refine Fin_f1 (by rfl) ?_ | refine Fin_fn (by intro h; cases h) (fun _ => rfl) ?_ | refine Fin_u1 (by rfl) ?_ | refine Fin_un (by intro h; cases h) ?_); try simp +contextual -implicitDefEqProofs (disch := first | exact dsc _ | fail) only [go_sem, push_cast, ↓reduceIte, Nat.reduceEqDiff, Nat.reduceAdd, Nat.reduceMul, Nat.reduceSub, Nat.reduceLT, Nat.reduceLeDiff, Nat.reduceBEq, reduceCtorEq, BEq.rfl, Int.reduceLT, Int.reduceLE, Int.reduceAdd, Int.reduceToNat, Int.reduceSub, Int.reduceMul, Int.reduceNeg, Int.reduceEq, *])
    · have hall' : v.votes.all okS = true := by rw [List.take_of_length_le (by omega)] at hall; exact hall
      have hin : i = v.votes.length := by omega
      subst hin
      rw [List.take_length] at hL
      repeat' (first | (with_reducible intro _) | (with_reducible refine wcond_not ?_) | ((with_reducible refine wcond_dec (fun _ => ?_) (fun _ => ?_)) <;> try (exfalso; omega)) | (with_reducible refine wcond_split (fun _ => ?_) (fun _ => ?_)) | (with_reducible refine draw_ro (by kernel_rfl) ?_) | simp +contextual -implicitDefEqProofs (disch := first | exact dsc _ | fail) only [go_sem, ↓reduceIte, Nat.reduceEqDiff, Nat.reduceAdd, Nat.reduceMul, Nat.reduceSub, Nat.reduceLT, Nat.reduceLeDiff, Nat.reduceBEq, reduceCtorEq, BEq.rfl, Int.reduceLT, Int.reduceLE, Int.reduceAdd, Int.reduceToNat, Int.reduceSub, Int.reduceMul, Int.reduceNeg, Int.reduceEq, *, hL, List.take_length] | (with_reducible refine And.intro (by first | omega | assumption | rfl) ?_))
      rename_i r2 h2 r3 h3
      refine wloopW (α := Nat × Id × Nat) (fun p => ⟨[(1, .ptr r0 []), (44, .list (v.texts.map txtA)), (45, .int .i64 v.texts.length), (46, .int .i64 p.1), (4, .own p.2.1 [] 1 0 (8 + 393 * v.votes.length + ((v.texts.take p.1).flatMap encT).length) p.2.2)],
          [(p.2.1, .row 5 1 (bys (be v.votes.length 4 ++ v.votes.flatMap encS ++ be v.texts.length 4 ++ (v.texts.take p.1).flatMap encT)) 0), (r0, .box (viewA v))]⟩)
        (fun p => p.1 ≤ v.texts.length ∧ (v.texts.take p.1).all okT = true ∧ 8 + 393 * v.votes.length + ((v.texts.take p.1).flatMap encT).length ≤ p.2.2 ∧ ¬ p.2.1 = r0 ∧ ¬ r0 = p.2.1) (fun p => v.texts.length - p.1) (0, r3, 4 + 393 * v.votes.length + 4) ?_ ?_ ?_
      · simp_all; omega
      · simp +contextual -implicitDefEqProofs (disch := first | exact dsc _ | fail) only [go_sem, push_cast, ↓reduceIte, Nat.reduceEqDiff, Nat.reduceAdd, Nat.reduceMul, Nat.reduceSub, Nat.reduceLT, Nat.reduceLeDiff, Nat.reduceBEq, reduceCtorEq, BEq.rfl, Int.reduceLT, Int.reduceLE, Int.reduceAdd, Int.reduceToNat, Int.reduceSub, Int.reduceMul, Int.reduceNeg, Int.reduceEq, *]
        simp
        try omega
      · rintro ⟨i, r, mc⟩ ⟨hi, hall, hmc, hne, hne'⟩
        have hi : i ≤ v.texts.length := hi
        have hall : (v.texts.take i).all okT = true := hall
        have hmc : 8 + 393 * v.votes.length + ((v.texts.take i).flatMap encT).length ≤ mc := hmc
        have hne : ¬ r = r0 := hne
        have hne' : ¬ r0 = r := hne'
        have hT := texts_len hall
        by_cases hlt : i < v.texts.length
        · obtain ⟨s, hs⟩ := get_lt hlt
          have hlen := hs4 s (List.mem_of_getElem? hs)
          have hE : (encT s).length ≤ 10000002 := by rw [encT_len]; omega
          have hsn := flat_snoc encT hs
          repeat' (first | (with_reducible intro _) | (with_reducible refine wcond_not ?_) | ((with_reducible refine wcond_dec (fun _ => ?_) (fun _ => ?_)) <;> try (exfalso; omega)) | (with_reducible refine wcond_split (fun _ => ?_) (fun _ => ?_)) | (with_reducible refine draw_ro (by kernel_rfl) ?_) | simp +contextual -implicitDefEqProofs (disch := first | exact dsc _ | fail) only [go_sem, ↓reduceIte, Nat.reduceEqDiff, Nat.reduceAdd, Nat.reduceMul, Nat.reduceSub, Nat.reduceLT, Nat.reduceLeDiff, Nat.reduceBEq, reduceCtorEq, BEq.rfl, Int.reduceLT, Int.reduceLE, Int.reduceAdd, Int.reduceToNat, Int.reduceSub, Int.reduceMul, Int.reduceNeg, Int.reduceEq, *, hL] | (with_reducible refine And.intro (by first | omega | assumption | rfl) ?_))
          · rename_i hbig
            have hok : okT s = false := by simp [okT]; omega
            have he : errW v = 1 := by simp [errW, all_bad hs hok]
            rw [show encOut v = .val (.tup [.nils, .int .i64 1]) from by simp [encOut, he]]
            ((first | refine Fin_v1 (by rfl) ?_ | refine Fin_vn (by intro h; cases h) ?_ | refine Fin_f1 (by rfl) ?_ | refine Fin_fn (by intro h; cases h) (fun _ => rfl) ?_ | refine Fin_u1 (by rfl) ?_ | refine Fin_un (by intro h; cases h) ?_); try simp +contextual -implicitDefEqProofs (disch := first | exact dsc _ | fail) only [go_sem, push_cast, ↓reduceIte, Nat.reduceEqDiff, Nat.reduceAdd, Nat.reduceMul, Nat.reduceSub, Nat.reduceLT, Nat.reduceLeDiff, Nat.reduceBEq, reduceCtorEq, BEq.rfl, Int.reduceLT, Int.reduceLE, Int.reduceAdd, Int.reduceToNat, Int.reduceSub, Int.reduceMul, Int.reduceNeg, Int.reduceEq, *])
          · rename_i r6 h6
            have hok : okT s = true := by assumption
            refine round_intro (i + 1, r6, 8 + 393 * v.votes.length + ((v.texts.take (i + 1)).flatMap encT).length) ⟨hlt, all_snoc hs hall hok, Nat.le_refl _, by simp_all⟩ (by show v.texts.length - (i + 1) < v.texts.length - i; omega) ?_
            simp +contextual -implicitDefEqProofs (disch := first | exact dsc _ | fail) only [go_sem, push_cast, ↓reduceIte, Nat.reduceEqDiff, Nat.reduceAdd, Nat.reduceMul, Nat.reduceSub, Nat.reduceLT, Nat.reduceLeDiff, Nat.reduceBEq, reduceCtorEq, BEq.rfl, Int.reduceLT, Int.reduceLE, Int.reduceAdd, Int.reduceToNat, Int.reduceSub, Int.reduceMul, Int.reduceNeg, Int.reduceEq, *]
            repeat' (first | (apply And.intro) | rfl | omega | (rw [List.length_append]; omega) | (simp only [List.append_assoc]; done))
          · exfalso
            have hok : okT s = false := by assumption
            have : ¬ s.length ≤ 65535 := by simpa [okT] using hok
            omega
        · have hall2 : v.texts.all okT = true := by rw [List.take_of_length_le (by omega)] at hall; exact hall
          have hin : i = v.texts.length := by omega
          subst hin
          rw [List.take_length] at hT
          repeat' (first | (with_reducible intro _) | (with_reducible refine wcond_not ?_) | ((with_reducible refine wcond_dec (fun _ => ?_) (fun _ => ?_)) <;> try (exfalso; omega)) | (with_reducible refine wcond_split (fun _ => ?_) (fun _ => ?_)) | (with_reducible refine draw_ro (by kernel_rfl) ?_) | simp +contextual -implicitDefEqProofs (disch := first | exact dsc _ | fail) only [go_sem, ↓reduceIte, Nat.reduceEqDiff, Nat.reduceAdd, Nat.reduceMul, Nat.reduceSub, Nat.reduceLT, Nat.reduceLeDiff, Nat.reduceBEq, reduceCtorEq, BEq.rfl, Int.reduceLT, Int.reduceLE, Int.reduceAdd, Int.reduceToNat, Int.reduceSub, Int.reduceMul, Int.reduceNeg, Int.reduceEq, *, hL, List.take_length] | (with_reducible refine And.intro (by first | omega | assumption | rfl) ?_))
          · rename_i ho
            have he : errW v = 0 := by simp [errW, hall', hall2, ho]
            rw [show encOut v = outE (bytesW v) from by simp [encOut, he]]
            have hb : (bytesW v).length = 8 + 393 * v.votes.length + (List.flatMap encT v.texts).length := by
              simp only [bytesW, List.length_append, be_len, hL]; omega
            ((first | refine Fin_v1 (by rfl) ?_ | refine Fin_vn (by intro h; cases h) ?_ | refine Fin_f1 (by rfl) ?_ | refine Fin_fn (by intro h; cases h) (fun _ => rfl) ?_ | refine Fin_u1 (by rfl) ?_ | refine Fin_un (by intro h; cases h) ?_); try simp +contextual -implicitDefEqProofs (disch := first | exact dsc _ | fail) only [go_sem, push_cast, ↓reduceIte, Nat.reduceEqDiff, Nat.reduceAdd, Nat.reduceMul, Nat.reduceSub, Nat.reduceLT, Nat.reduceLeDiff, Nat.reduceBEq, reduceCtorEq, BEq.rfl, Int.reduceLT, Int.reduceLE, Int.reduceAdd, Int.reduceToNat, Int.reduceSub, Int.reduceMul, Int.reduceNeg, Int.reduceEq, *])
            rw [List.take_length] at hmc
            all_goals first | exact ⟨hmc, by rw [bytesW]⟩ | rw [bytesW]
          · rename_i ho
            have he : errW v = 10 := by simp [errW, hall', hall2, ho]
            rw [show encOut v = .val (.tup [.nils, .int .i64 10]) from by simp [encOut, he]]
            ((first | refine Fin_v1 (by rfl) ?_ | refine Fin_vn (by intro h; cases h) ?_ | refine Fin_f1 (by rfl) ?_ | refine Fin_fn (by intro h; cases h) (fun _ => rfl) ?_ | refine Fin_u1 (by rfl) ?_ | refine Fin_un (by intro h; cases h) ?_); try simp +contextual -implicitDefEqProofs (disch := first | exact dsc _ | fail) only [go_sem, push_cast, ↓reduceIte, Nat.reduceEqDiff, Nat.reduceAdd, Nat.reduceMul, Nat.reduceSub, Nat.reduceLT, Nat.reduceLeDiff, Nat.reduceBEq, reduceCtorEq, BEq.rfl, Int.reduceLT, Int.reduceLE, Int.reduceAdd, Int.reduceToNat, Int.reduceSub, Int.reduceMul, Int.reduceNeg, Int.reduceEq, *])
theorem t_snapshot_Encode_y {v : View} (h : errW v = 0) (hs : smallW v) : FnG Tryz.prog 9 [viewA v] [] (outE (bytesW v)) = True := by
  have := snapEnc_ok hs
  rw [show encOut v = outE (bytesW v) from by simp [encOut, h]] at this
  exact eq_true this
attribute [go_sem ↓] t_snapshot_Encode_y
theorem t_snapshot_Encode_n {v : View} (h : ¬ errW v = 0) (hs : smallW v) : FnG Tryz.prog 9 [viewA v] [] (.val (.tup [.nils, .int .i64 (errW v)])) = True := by
  have := snapEnc_ok hs
  rw [show encOut v = .val (.tup [.nils, .int .i64 (errW v)]) from by simp [encOut, h]] at this
  exact eq_true this
attribute [go_sem ↓] t_snapshot_Encode_n
end Go.Am.Tryz
set_option maxRecDepth 100000
set_option linter.unusedSimpArgs false
set_option linter.unusedVariables false
set_option pp.maxSteps 2000
namespace Go.Am.Tryz
open Go.Proofs
def sp_forkledgerref1_AppendUint (args : List AV) : RM CallSpec := match args with
  | [b, .int .u64 v, .int .i64 k] => (bysM b).bind fun l => mkS [.list (bys l), .int .u64 v, .int .i64 k] [] (.fresh fun r => (.own r [] 1 0 (l.length + k.toNat) (l.length + k.toNat), [(r, .row 5 1 (bys (l ++ be v.toNat k.toNat)) 0)])) false
  | _ => .fail
attribute [go_sem] sp_forkledgerref1_AppendUint
theorem AppendUintR_ok (l : List UInt8) (v k : Nat) (hk : k ≤ 8) (hv : v < 18446744073709551616) (hl : l.length ≤ 35184372080000) :
    FnG Tryz.prog 30 [.list (bys l), .int .u64 v, .int .i64 k] [] (.fresh fun r => (.own r [] 1 0 (l.length + k) (l.length + k), [(r, .row 5 1 (bys (l ++ be v k)) 0)])) := by
  refine FnG_of_W (sp := spL []) (tb := tbOf Tryz.prog) (tbOf_ok _) (by kernel_rfl) Tryz.func30 (c := _) rfl (by kernel_rfl) (by kernel_rfl) (Nat.le_of_ble_eq_true rfl) (rs := [.tmp 6]) rfl ?_
  unfold FnW
  have e1 : (if (8 : Int) < k then (8 : Int) else k) = k := if_neg (by omega)
  have e2 : (if (0 : Int) < k then (k : Int) else 0) = k := by split <;> omega
  repeat' (first | (with_reducible intro _) | (with_reducible refine wcond_not ?_) | ((with_reducible refine wcond_dec (fun _ => ?_) (fun _ => ?_)) <;> try (exfalso; omega)) | (with_reducible refine wcond_split (fun _ => ?_) (fun _ => ?_)) | (with_reducible refine draw_ro (by kernel_rfl) ?_) | simp +contextual -implicitDefEqProofs (disch := first | exact dsc _ | fail) only [go_sem, ↓reduceIte, Nat.reduceEqDiff, Nat.reduceAdd, Nat.reduceMul, Nat.reduceSub, Nat.reduceLT, Nat.reduceLeDiff, Nat.reduceBEq, reduceCtorEq, BEq.rfl, Int.reduceLT, Int.reduceLE, Int.reduceAdd, Int.reduceToNat, Int.reduceSub, Int.reduceMul, Int.reduceNeg, Int.reduceEq, *] | (with_reducible refine And.intro (by first | omega | assumption | rfl) ?_))
  rename_i r0 r
  refine wloopW (α := Nat × Id × Nat) (fun p => ⟨[(7, .own p.2.1 [] 1 0 (l.length + p.1) p.2.2), (8, .int .i64 (k - 1 - p.1)), (1, .int .u64 v)], [(p.2.1, .row 5 1 (bys (l ++ (be v k).take p.1)) 0)]⟩) (fun p => p.1 ≤ k ∧ l.length + p.1 ≤ p.2.2) (fun p => k - p.1) (0, r, l.length) ?_ ?_ ?_
  · exact ⟨Nat.zero_le _, Nat.le_refl _⟩
  · simp +contextual -implicitDefEqProofs (disch := first | exact dsc _ | fail) only [go_sem, push_cast, ↓reduceIte, Nat.reduceEqDiff, Nat.reduceAdd, Nat.reduceMul, Nat.reduceSub, Nat.reduceLT, Nat.reduceLeDiff, Nat.reduceBEq, reduceCtorEq, BEq.rfl, Int.reduceLT, Int.reduceLE, Int.reduceAdd, Int.reduceToNat, Int.reduceSub, Int.reduceMul, Int.reduceNeg, Int.reduceEq, *]
    try simp
  · rintro ⟨m, r1, mc⟩ ⟨hm, hmc⟩
    have hm : m ≤ k := hm
    have hmc : l.length + m ≤ mc := hmc
    by_cases hlt : m < k
    · obtain ⟨i, hi⟩ : ∃ i : Nat, (k : Int) - 1 - m = i := ⟨k - 1 - m, by omega⟩
      have hb := b8_shr v i hv
      have hmin : min m k = m := by omega
      repeat' (first | (with_reducible intro _) | (with_reducible refine wcond_not ?_) | ((with_reducible refine wcond_dec (fun _ => ?_) (fun _ => ?_)) <;> try (exfalso; omega)) | (with_reducible refine wcond_split (fun _ => ?_) (fun _ => ?_)) | (with_reducible refine draw_ro (by kernel_rfl) ?_) | simp +contextual -implicitDefEqProofs (disch := first | exact dsc _ | fail) only [go_sem, ↓reduceIte, Nat.reduceEqDiff, Nat.reduceAdd, Nat.reduceMul, Nat.reduceSub, Nat.reduceLT, Nat.reduceLeDiff, Nat.reduceBEq, reduceCtorEq, BEq.rfl, Int.reduceLT, Int.reduceLE, Int.reduceAdd, Int.reduceToNat, Int.reduceSub, Int.reduceMul, Int.reduceNeg, Int.reduceEq, *, shr_run, hb, be_len, hmin] | (with_reducible refine And.intro (by first | omega | assumption | rfl) ?_))
      rename_i r2 h2 r3 h3
      refine round_intro (m + 1, r3, l.length + m + 1) ⟨by show m + 1 ≤ k; omega, by show l.length + (m + 1) ≤ l.length + m + 1; omega⟩ (by show k - (m + 1) < k - m; omega) ?_
      simp +contextual -implicitDefEqProofs (disch := first | exact dsc _ | fail) only [go_sem, push_cast, ↓reduceIte, Nat.reduceEqDiff, Nat.reduceAdd, Nat.reduceMul, Nat.reduceSub, Nat.reduceLT, Nat.reduceLeDiff, Nat.reduceBEq, reduceCtorEq, BEq.rfl, Int.reduceLT, Int.reduceLE, Int.reduceAdd, Int.reduceToNat, Int.reduceSub, Int.reduceMul, Int.reduceNeg, Int.reduceEq, *]
      have hm2 := be_take v k m (by omega)
      have hi2 : k - 1 - m = i := by omega
      rw [hi2] at hm2
      rw [← hm2, List.append_assoc]
      first | exact ⟨by omega, by omega⟩ | exact ⟨by omega, by omega, rfl⟩ | omega
    · have hmk : m = k := by omega
      subst hmk
      repeat' (first | (with_reducible intro _) | (with_reducible refine wcond_not ?_) | ((with_reducible refine wcond_dec (fun _ => ?_) (fun _ => ?_)) <;> try (exfalso; omega)) | (with_reducible refine wcond_split (fun _ => ?_) (fun _ => ?_)) | (with_reducible refine draw_ro (by kernel_rfl) ?_) | simp +contextual -implicitDefEqProofs (disch := first | exact dsc _ | fail) only [go_sem, ↓reduceIte, Nat.reduceEqDiff, Nat.reduceAdd, Nat.reduceMul, Nat.reduceSub, Nat.reduceLT, Nat.reduceLeDiff, Nat.reduceBEq, reduceCtorEq, BEq.rfl, Int.reduceLT, Int.reduceLE, Int.reduceAdd, Int.reduceToNat, Int.reduceSub, Int.reduceMul, Int.reduceNeg, Int.reduceEq, *] | (with_reducible refine And.intro (by first | omega | assumption | rfl) ?_))
      ((first | refine Fin_v1 (by rfl) ?_ | refine Fin_vn (by intro h; cases h) ?_ | refine Fin_f1 (by rfl) ?_ | refine Fin_fn (by intro h; cases h) (fun _ => rfl) ?_ | refine Fin_u1 (by rfl) ?_ | refine Fin_un (by intro h; cases h) ?_); try simp +contextual -implicitDefEqProofs (disch := first | exact dsc _ | fail) only [go_sem, push_cast, ↓reduceIte, Nat.reduceEqDiff, Nat.reduceAdd, Nat.reduceMul, Nat.reduceSub, Nat.reduceLT, Nat.reduceLeDiff, Nat.reduceBEq, reduceCtorEq, BEq.rfl, Int.reduceLT, Int.reduceLE, Int.reduceAdd, Int.reduceToNat, Int.reduceSub, Int.reduceMul, Int.reduceNeg, Int.reduceEq, *])
      all_goals first | exact hmc | (refine ⟨hmc, ?_⟩; rw [List.take_of_length_le (by rw [be_len]; exact Nat.le_refl _)])
theorem t_forkledgerref1_AppendUint {l : List UInt8} {v k : Int} (h0 : 0 ≤ v) (h1 : v < 18446744073709551616) (h2 : 0 ≤ k) (h3 : k ≤ 8) (h4 : l.length ≤ 35184372080000) :
    FnG Tryz.prog 30 [.list (bys l), .int .u64 v, .int .i64 k] [] (.fresh fun r => (.own r [] 1 0 (l.length + k.toNat) (l.length + k.toNat), [(r, .row 5 1 (bys (l ++ be v.toNat k.toNat)) 0)])) = True := by
  have := AppendUintR_ok l v.toNat k.toNat (by omega) (by omega) h4
  rw [Int.toNat_of_nonneg h0, Int.toNat_of_nonneg h2] at this
  exact eq_true this
attribute [go_sem ↓] t_forkledgerref1_AppendUint
def sp_forkledgerref6_agreement (args : List AV) : RM CallSpec := match args with
  | [x0] => (opt (intD x0)).bind fun k => pureS [.int .i64 k] (.bool (decide (1 ≤ k) && decide (k ≤ 4)))
  | _ => .fail
attribute [go_sem] sp_forkledgerref6_agreement
theorem t_forkledgerref6_agreement (k : Int)  : FnG Tryz.prog 125 [.int .i64 k] [] (.val (.bool (decide (1 ≤ k) && decide (k ≤ 4)))) = True := by
  refine eq_true ?_
  refine FnG_of_W (sp := spL []) (tb := tbOf Tryz.prog) (tbOf_ok _) (by kernel_rfl) Tryz.func125 (c := _) rfl (by kernel_rfl) (by kernel_rfl) (Nat.le_of_ble_eq_true rfl) (rs := [.tmp 2]) rfl ?_
  unfold FnW
  repeat' (first | (with_reducible intro _) | (with_reducible refine wcond_not ?_) | ((with_reducible refine wcond_dec (fun _ => ?_) (fun _ => ?_)) <;> try (exfalso; omega)) | (with_reducible refine wcond_split (fun _ => ?_) (fun _ => ?_)) | (with_reducible refine draw_ro (by kernel_rfl) ?_) | simp +contextual -implicitDefEqProofs (disch := first | exact dsc _ | fail) only [go_sem, ↓reduceIte, Nat.reduceEqDiff, Nat.reduceAdd, Nat.reduceMul, Nat.reduceSub, Nat.reduceLT, Nat.reduceLeDiff, Nat.reduceBEq, reduceCtorEq, BEq.rfl, Int.reduceLT, Int.reduceLE, Int.reduceAdd, Int.reduceToNat, Int.reduceSub, Int.reduceMul, Int.reduceNeg, Int.reduceEq, *] | (with_reducible refine And.intro (by first | omega | assumption | rfl) ?_))
  all_goals ((first | refine Fin_v1 (by rfl) ?_ | refine Fin_vn (by intro h; cases h) ?_ | refine Fin_f1 (by rfl) ?_ | refine Fin_fn (by intro h; cases h) (fun _ => rfl) ?_ | refine Fin_u1 (by rfl) ?_ | refine Fin_un (by intro h; cases h) ?_); try simp +contextual -implicitDefEqProofs (disch := first | exact dsc _ | fail) only [go_sem, push_cast, ↓reduceIte, Nat.reduceEqDiff, Nat.reduceAdd, Nat.reduceMul, Nat.reduceSub, Nat.reduceLT, Nat.reduceLeDiff, Nat.reduceBEq, reduceCtorEq, BEq.rfl, Int.reduceLT, Int.reduceLE, Int.reduceAdd, Int.reduceToNat, Int.reduceSub, Int.reduceMul, Int.reduceNeg, Int.reduceEq, *])
attribute [go_sem ↓] t_forkledgerref6_agreement
def sp_forkledgerref6_Valid (args : List AV) : RM CallSpec := match args with
  | [x0] => (opt (voteD x0)).bind fun v => pureS [voteA v] (.bool (validV v))
  | _ => .fail
attribute [go_sem] sp_forkledgerref6_Valid
theorem t_forkledgerref6_Valid (v : Vote)  : FnG Tryz.prog 105 [voteA v] [] (.val (.bool (validV v))) = True := by
  refine eq_true ?_
  refine FnG_of_W (sp := spL [(125, sp_forkledgerref6_agreement)]) (tb := tbOf Tryz.prog) (tbOf_ok _) (by kernel_rfl) Tryz.func105 (c := _) rfl (by kernel_rfl) (by kernel_rfl) (Nat.le_of_ble_eq_true rfl) (rs := [.tmp 2]) rfl ?_
  unfold FnW
  repeat' (first | (with_reducible intro _) | (with_reducible refine wcond_not ?_) | ((with_reducible refine wcond_dec (fun _ => ?_) (fun _ => ?_)) <;> try (exfalso; omega)) | (with_reducible refine wcond_split (fun _ => ?_) (fun _ => ?_)) | (with_reducible refine draw_ro (by kernel_rfl) ?_) | simp +contextual -implicitDefEqProofs (disch := first | exact dsc _ | fail) only [go_sem, ↓reduceIte, Nat.reduceEqDiff, Nat.reduceAdd, Nat.reduceMul, Nat.reduceSub, Nat.reduceLT, Nat.reduceLeDiff, Nat.reduceBEq, reduceCtorEq, BEq.rfl, Int.reduceLT, Int.reduceLE, Int.reduceAdd, Int.reduceToNat, Int.reduceSub, Int.reduceMul, Int.reduceNeg, Int.reduceEq, *, supX_run] | (with_reducible refine And.intro (by first | omega | assumption | rfl) ?_))
  all_goals ((first | refine Fin_v1 (by rfl) ?_ | refine Fin_vn (by intro h; cases h) ?_ | refine Fin_f1 (by rfl) ?_ | refine Fin_fn (by intro h; cases h) (fun _ => rfl) ?_ | refine Fin_u1 (by rfl) ?_ | refine Fin_un (by intro h; cases h) ?_); try simp +contextual -implicitDefEqProofs (disch := first | exact dsc _ | fail) only [go_sem, push_cast, ↓reduceIte, Nat.reduceEqDiff, Nat.reduceAdd, Nat.reduceMul, Nat.reduceSub, Nat.reduceLT, Nat.reduceLeDiff, Nat.reduceBEq, reduceCtorEq, BEq.rfl, Int.reduceLT, Int.reduceLE, Int.reduceAdd, Int.reduceToNat, Int.reduceSub, Int.reduceMul, Int.reduceNeg, Int.reduceEq, *])
  all_goals (by_cases hz : v.value = nm0 <;> simp_all [validV, VALID] <;> first | omega | grind)
attribute [go_sem ↓] t_forkledgerref6_Valid
end Go.Am.Tryz
set_option maxRecDepth 100000
set_option linter.unusedSimpArgs false
set_option linter.unusedVariables false
set_option pp.maxSteps 2000
namespace Go.Am.Tryz
open Go.Proofs
def sp_forkledgerref6_Encode (args : List AV) : RM CallSpec := sp_vote_Encode args
attribute [go_sem] sp_forkledgerref6_Encode
theorem t_forkledgerref6_Encode_n {v : Vote} (h : validV v = false) : FnG Tryz.prog 79 [voteA v] [] (.val (.tup [.nils, .bool false])) = True := by
  refine eq_true ?_
  refine FnG_of_W (sp := spL [(105, sp_forkledgerref6_Valid)]) (tb := tbOf Tryz.prog) (tbOf_ok _) (by kernel_rfl) Tryz.func79 (c := _) rfl (by kernel_rfl) (by kernel_rfl) (Nat.le_of_ble_eq_true rfl) (rs := [.tmp 2, .tmp 3]) rfl ?_
  unfold FnW
  repeat' (first | (with_reducible intro _) | (with_reducible refine wcond_not ?_) | ((with_reducible refine wcond_dec (fun _ => ?_) (fun _ => ?_)) <;> try (exfalso; omega)) | (with_reducible refine wcond_split (fun _ => ?_) (fun _ => ?_)) | (with_reducible refine draw_we [(false, []), (false, []), (true, []), (true, []), (false, []), (false, [2, 3]), (false, []), (false, []), (false, [])] (by kernel_rfl) (by decide +kernel) ?_) | simp +contextual -implicitDefEqProofs (disch := first | exact dsc _ | fail) only [go_sem, ↓reduceIte, Nat.reduceEqDiff, Nat.reduceAdd, Nat.reduceMul, Nat.reduceSub, Nat.reduceLT, Nat.reduceLeDiff, Nat.reduceBEq, reduceCtorEq, BEq.rfl, Int.reduceLT, Int.reduceLE, Int.reduceAdd, Int.reduceToNat, Int.reduceSub, Int.reduceMul, Int.reduceNeg, Int.reduceEq, *, h] | (with_reducible refine And.intro (by first | omega | assumption | rfl) ?_))
  all_goals ((first | refine Fin_v1 (by rfl) ?_ | refine Fin_vn (by intro h; cases h) ?_ | refine Fin_f1 (by rfl) ?_ | refine Fin_fn (by intro h; cases h) (fun _ => rfl) ?_ | refine Fin_u1 (by rfl) ?_ | refine Fin_un (by intro h; cases h) ?_); try simp +contextual -implicitDefEqProofs (disch := first | exact dsc _ | fail) only [go_sem, push_cast, ↓reduceIte, Nat.reduceEqDiff, Nat.reduceAdd, Nat.reduceMul, Nat.reduceSub, Nat.reduceLT, Nat.reduceLeDiff, Nat.reduceBEq, reduceCtorEq, BEq.rfl, Int.reduceLT, Int.reduceLE, Int.reduceAdd, Int.reduceToNat, Int.reduceSub, Int.reduceMul, Int.reduceNeg, Int.reduceEq, *])
attribute [go_sem ↓] t_forkledgerref6_Encode_n
theorem t_forkledgerref6_Encode_y {v : Vote} (h : validV v = true) : FnG Tryz.prog 79 [voteA v] [] (outB (encV v) true) = True := by
  refine eq_true ?_
  refine FnG_of_W (sp := spL [(105, sp_forkledgerref6_Valid)]) (tb := tbOf Tryz.prog) (tbOf_ok _) (by kernel_rfl) Tryz.func79 (c := _) rfl (by kernel_rfl) (by kernel_rfl) (Nat.le_of_ble_eq_true rfl) (rs := [.tmp 2, .tmp 3]) rfl ?_
  unfold FnW
  repeat' (first | (with_reducible intro _) | (with_reducible refine wcond_not ?_) | ((with_reducible refine wcond_dec (fun _ => ?_) (fun _ => ?_)) <;> try (exfalso; omega)) | (with_reducible refine wcond_split (fun _ => ?_) (fun _ => ?_)) | (with_reducible refine draw_we [(false, []), (false, []), (true, []), (true, []), (false, []), (false, [2, 3]), (false, []), (false, []), (false, [])] (by kernel_rfl) (by decide +kernel) ?_) | simp +contextual -implicitDefEqProofs (disch := first | exact dsc _ | fail) only [go_sem, ↓reduceIte, Nat.reduceEqDiff, Nat.reduceAdd, Nat.reduceMul, Nat.reduceSub, Nat.reduceLT, Nat.reduceLeDiff, Nat.reduceBEq, reduceCtorEq, BEq.rfl, Int.reduceLT, Int.reduceLE, Int.reduceAdd, Int.reduceToNat, Int.reduceSub, Int.reduceMul, Int.reduceNeg, Int.reduceEq, *, h, shr8_run] | (with_reducible refine And.intro (by first | omega | assumption | rfl) ?_))
  all_goals ((first | refine Fin_v1 (by rfl) ?_ | refine Fin_vn (by intro h; cases h) ?_ | refine Fin_f1 (by rfl) ?_ | refine Fin_fn (by intro h; cases h) (fun _ => rfl) ?_ | refine Fin_u1 (by rfl) ?_ | refine Fin_un (by intro h; cases h) ?_); try simp +contextual -implicitDefEqProofs (disch := first | exact dsc _ | fail) only [go_sem, push_cast, ↓reduceIte, Nat.reduceEqDiff, Nat.reduceAdd, Nat.reduceMul, Nat.reduceSub, Nat.reduceLT, Nat.reduceLeDiff, Nat.reduceBEq, reduceCtorEq, BEq.rfl, Int.reduceLT, Int.reduceLE, Int.reduceAdd, Int.reduceToNat, Int.reduceSub, Int.reduceMul, Int.reduceNeg, Int.reduceEq, *, encV_len])
  all_goals simp [encV, be2_sup]
attribute [go_sem ↓] t_forkledgerref6_Encode_y
def sp_forkledgerref6_EncodeSigned (args : List AV) : RM CallSpec := sp_signed_Encode args
attribute [go_sem] sp_forkledgerref6_EncodeSigned
theorem t_forkledgerref6_EncodeSigned_n {s : Sgn} (h : okS s = false) (hl : s.sig.length ≤ 35184372080000) : FnG Tryz.prog 31 [sgnA s] [] (.val (.tup [.nils, .bool false])) = True := by
  refine eq_true ?_
  refine FnG_of_W (sp := spL [(79, sp_forkledgerref6_Encode)]) (tb := tbOf Tryz.prog) (tbOf_ok _) (by kernel_rfl) Tryz.func31 (c := _) rfl (by kernel_rfl) (by kernel_rfl) (Nat.le_of_ble_eq_true rfl) (rs := [.tmp 2, .tmp 3]) rfl ?_
  unfold FnW
  repeat' (first | (with_reducible intro _) | (with_reducible refine wcond_not ?_) | ((with_reducible refine wcond_dec (fun _ => ?_) (fun _ => ?_)) <;> try (exfalso; omega)) | (with_reducible refine wcond_split (fun _ => ?_) (fun _ => ?_)) | (with_reducible refine draw_ro (by kernel_rfl) ?_) | simp +contextual -implicitDefEqProofs (disch := first | exact dsc _ | fail) only [go_sem, ↓reduceIte, Nat.reduceEqDiff, Nat.reduceAdd, Nat.reduceMul, Nat.reduceSub, Nat.reduceLT, Nat.reduceLeDiff, Nat.reduceBEq, reduceCtorEq, BEq.rfl, Int.reduceLT, Int.reduceLE, Int.reduceAdd, Int.reduceToNat, Int.reduceSub, Int.reduceMul, Int.reduceNeg, Int.reduceEq, *, sp_vote_Encode] | (with_reducible refine And.intro (by first | omega | assumption | rfl) ?_))
  all_goals ((first | refine Fin_v1 (by rfl) ?_ | refine Fin_vn (by intro h; cases h) ?_ | refine Fin_f1 (by rfl) ?_ | refine Fin_fn (by intro h; cases h) (fun _ => rfl) ?_ | refine Fin_u1 (by rfl) ?_ | refine Fin_un (by intro h; cases h) ?_); try simp +contextual -implicitDefEqProofs (disch := first | exact dsc _ | fail) only [go_sem, push_cast, ↓reduceIte, Nat.reduceEqDiff, Nat.reduceAdd, Nat.reduceMul, Nat.reduceSub, Nat.reduceLT, Nat.reduceLeDiff, Nat.reduceBEq, reduceCtorEq, BEq.rfl, Int.reduceLT, Int.reduceLE, Int.reduceAdd, Int.reduceToNat, Int.reduceSub, Int.reduceMul, Int.reduceNeg, Int.reduceEq, *])
  all_goals (try simp_all [okS])
  all_goals (try omega)
attribute [go_sem ↓] t_forkledgerref6_EncodeSigned_n
theorem t_forkledgerref6_EncodeSigned_y {s : Sgn} (h : okS s = true) : FnG Tryz.prog 31 [sgnA s] [] (outB (encS s) true) = True := by
  refine eq_true ?_
  refine FnG_of_W (sp := spL [(79, sp_forkledgerref6_Encode)]) (tb := tbOf Tryz.prog) (tbOf_ok _) (by kernel_rfl) Tryz.func31 (c := _) rfl (by kernel_rfl) (by kernel_rfl) (Nat.le_of_ble_eq_true rfl) (rs := [.tmp 2, .tmp 3]) rfl ?_
  unfold FnW
  obtain ⟨h1, h2⟩ : validV s.vote = true ∧ s.sig.length = 370 := by simpa [okS] using h
  repeat' (first | (with_reducible intro _) | (with_reducible refine wcond_not ?_) | ((with_reducible refine wcond_dec (fun _ => ?_) (fun _ => ?_)) <;> try (exfalso; omega)) | (with_reducible refine wcond_split (fun _ => ?_) (fun _ => ?_)) | (with_reducible refine draw_ro (by kernel_rfl) ?_) | simp +contextual -implicitDefEqProofs (disch := first | exact dsc _ | fail) only [go_sem, ↓reduceIte, Nat.reduceEqDiff, Nat.reduceAdd, Nat.reduceMul, Nat.reduceSub, Nat.reduceLT, Nat.reduceLeDiff, Nat.reduceBEq, reduceCtorEq, BEq.rfl, Int.reduceLT, Int.reduceLE, Int.reduceAdd, Int.reduceToNat, Int.reduceSub, Int.reduceMul, Int.reduceNeg, Int.reduceEq, *, sp_vote_Encode] | (with_reducible refine And.intro (by first | omega | assumption | rfl) ?_))
  all_goals ((first | refine Fin_v1 (by rfl) ?_ | refine Fin_vn (by intro h; cases h) ?_ | refine Fin_f1 (by rfl) ?_ | refine Fin_fn (by intro h; cases h) (fun _ => rfl) ?_ | refine Fin_u1 (by rfl) ?_ | refine Fin_un (by intro h; cases h) ?_); try simp +contextual -implicitDefEqProofs (disch := first | exact dsc _ | fail) only [go_sem, push_cast, ↓reduceIte, Nat.reduceEqDiff, Nat.reduceAdd, Nat.reduceMul, Nat.reduceSub, Nat.reduceLT, Nat.reduceLeDiff, Nat.reduceBEq, reduceCtorEq, BEq.rfl, Int.reduceLT, Int.reduceLE, Int.reduceAdd, Int.reduceToNat, Int.reduceSub, Int.reduceMul, Int.reduceNeg, Int.reduceEq, *])
  all_goals simp_all [encS, encV_len]
attribute [go_sem ↓] t_forkledgerref6_EncodeSigned_y
def sp_forkledgerref1_AppendBytes (args : List AV) : RM CallSpec := sp_codec_AppendBytes args
attribute [go_sem] sp_forkledgerref1_AppendBytes
theorem t_forkledgerref1_AppendBytes_n {l t : List UInt8} (h : okT t = false) (hl : t.length ≤ 35184372080000) : FnG Tryz.prog 32 [.list (bys l), .list (bys t)] [] (.val (.tup [.nils, .bool false])) = True := by
  refine eq_true ?_
  refine FnG_of_W (sp := spL [(30, sp_forkledgerref1_AppendUint)]) (tb := tbOf Tryz.prog) (tbOf_ok _) (by kernel_rfl) Tryz.func32 (c := _) rfl (by kernel_rfl) (by kernel_rfl) (Nat.le_of_ble_eq_true rfl) (rs := [.tmp 4, .tmp 5]) rfl ?_
  unfold FnW
  have h : ¬ t.length ≤ 65535 := by simpa [okT] using h
  repeat' (first | (with_reducible intro _) | (with_reducible refine wcond_not ?_) | ((with_reducible refine wcond_dec (fun _ => ?_) (fun _ => ?_)) <;> try (exfalso; omega)) | (with_reducible refine wcond_split (fun _ => ?_) (fun _ => ?_)) | (with_reducible refine draw_ro (by kernel_rfl) ?_) | simp +contextual -implicitDefEqProofs (disch := first | exact dsc _ | fail) only [go_sem, ↓reduceIte, Nat.reduceEqDiff, Nat.reduceAdd, Nat.reduceMul, Nat.reduceSub, Nat.reduceLT, Nat.reduceLeDiff, Nat.reduceBEq, reduceCtorEq, BEq.rfl, Int.reduceLT, Int.reduceLE, Int.reduceAdd, Int.reduceToNat, Int.reduceSub, Int.reduceMul, Int.reduceNeg, Int.reduceEq, *] | (with_reducible refine And.intro (by first | omega | assumption | rfl) ?_))
  all_goals ((first | refine Fin_v1 (by rfl) ?_ | refine Fin_vn (by intro h; cases h) ?_ | refine Fin_f1 (by rfl) ?_ | refine Fin_fn (by intro h; cases h) (fun _ => rfl) ?_ | refine Fin_u1 (by rfl) ?_ | refine Fin_un (by intro h; cases h) ?_); try simp +contextual -implicitDefEqProofs (disch := first | exact dsc _ | fail) only [go_sem, push_cast, ↓reduceIte, Nat.reduceEqDiff, Nat.reduceAdd, Nat.reduceMul, Nat.reduceSub, Nat.reduceLT, Nat.reduceLeDiff, Nat.reduceBEq, reduceCtorEq, BEq.rfl, Int.reduceLT, Int.reduceLE, Int.reduceAdd, Int.reduceToNat, Int.reduceSub, Int.reduceMul, Int.reduceNeg, Int.reduceEq, *])
attribute [go_sem ↓] t_forkledgerref1_AppendBytes_n
theorem t_forkledgerref1_AppendBytes_y {l t : List UInt8} (h : okT t = true) (hl : l.length ≤ 35184372000000) : FnG Tryz.prog 32 [.list (bys l), .list (bys t)] [] (outB (l ++ encT t) true) = True := by
  refine eq_true ?_
  refine FnG_of_W (sp := spL [(30, sp_forkledgerref1_AppendUint)]) (tb := tbOf Tryz.prog) (tbOf_ok _) (by kernel_rfl) Tryz.func32 (c := _) rfl (by kernel_rfl) (by kernel_rfl) (Nat.le_of_ble_eq_true rfl) (rs := [.tmp 4, .tmp 5]) rfl ?_
  unfold FnW
  have h : t.length ≤ 65535 := by simpa [okT] using h
  repeat' (first | (with_reducible intro _) | (with_reducible refine wcond_not ?_) | ((with_reducible refine wcond_dec (fun _ => ?_) (fun _ => ?_)) <;> try (exfalso; omega)) | (with_reducible refine wcond_split (fun _ => ?_) (fun _ => ?_)) | (with_reducible refine draw_ro (by kernel_rfl) ?_) | simp +contextual -implicitDefEqProofs (disch := first | exact dsc _ | fail) only [go_sem, ↓reduceIte, Nat.reduceEqDiff, Nat.reduceAdd, Nat.reduceMul, Nat.reduceSub, Nat.reduceLT, Nat.reduceLeDiff, Nat.reduceBEq, reduceCtorEq, BEq.rfl, Int.reduceLT, Int.reduceLE, Int.reduceAdd, Int.reduceToNat, Int.reduceSub, Int.reduceMul, Int.reduceNeg, Int.reduceEq, *] | (with_reducible refine And.intro (by first | omega | assumption | rfl) ?_))
  all_goals ((first | refine Fin_v1 (by rfl) ?_ | refine Fin_vn (by intro h; cases h) ?_ | refine Fin_f1 (by rfl) ?_ | refine Fin_fn (by intro h; cases h) (fun _ => rfl) ?_ | refine Fin_u1 (by rfl) ?_ | refine Fin_un (by intro h; cases h) ?_); try simp +contextual -implicitDefEqProofs (disch := first | exact dsc _ | fail) only [go_sem, push_cast, ↓reduceIte, Nat.reduceEqDiff, Nat.reduceAdd, Nat.reduceMul, Nat.reduceSub, Nat.reduceLT, Nat.reduceLeDiff, Nat.reduceBEq, reduceCtorEq, BEq.rfl, Int.reduceLT, Int.reduceLE, Int.reduceAdd, Int.reduceToNat, Int.reduceSub, Int.reduceMul, Int.reduceNeg, Int.reduceEq, *, encT_len])
  simp [encT]
  try omega
attribute [go_sem ↓] t_forkledgerref1_AppendBytes_y
def sp_forkledgerref1_Number (args : List AV) : RM CallSpec := match args with
  | [x0] => (opt (nmD x0)).bind fun n => pureS [nmA n] (.int .u64 (unbe n.l))
  | _ => .fail
attribute [go_sem] sp_forkledgerref1_Number
theorem t_forkledgerref1_Number (n : Nm)  : FnG Tryz.prog 126 [nmA n] [] (.val (.int .u64 (unbe n.l))) = True := by
  refine eq_true ?_
  refine FnG_of_W (sp := spL []) (tb := tbOf Tryz.prog) (tbOf_ok _) (by kernel_rfl) Tryz.func126 (c := _) rfl (by kernel_rfl) (by kernel_rfl) (Nat.le_of_ble_eq_true rfl) (rs := [.tmp 2]) rfl ?_
  unfold FnW
  repeat' (first | (with_reducible intro _) | (with_reducible refine wcond_not ?_) | ((with_reducible refine wcond_dec (fun _ => ?_) (fun _ => ?_)) <;> try (exfalso; omega)) | (with_reducible refine wcond_split (fun _ => ?_) (fun _ => ?_)) | (with_reducible refine draw_ro (by kernel_rfl) ?_) | simp +contextual -implicitDefEqProofs (disch := first | exact dsc _ | fail) only [go_sem, ↓reduceIte, Nat.reduceEqDiff, Nat.reduceAdd, Nat.reduceMul, Nat.reduceSub, Nat.reduceLT, Nat.reduceLeDiff, Nat.reduceBEq, reduceCtorEq, BEq.rfl, Int.reduceLT, Int.reduceLE, Int.reduceAdd, Int.reduceToNat, Int.reduceSub, Int.reduceMul, Int.reduceNeg, Int.reduceEq, *] | (with_reducible refine And.intro (by first | omega | assumption | rfl) ?_))
  rename_i r0
  refine wloopW (α := Nat) (fun i => ⟨[(1, .ptr r0 []), (4, .int .i64 i), (3, .int .u64 (unbe (n.l.take i)))], [(r0, .box (nmA n))]⟩) (fun i => i ≤ 8) (fun i => 8 - i) 0 (Nat.zero_le _) ?_ ?_
  · simp +contextual -implicitDefEqProofs (disch := first | exact dsc _ | fail) only [go_sem, push_cast, ↓reduceIte, Nat.reduceEqDiff, Nat.reduceAdd, Nat.reduceMul, Nat.reduceSub, Nat.reduceLT, Nat.reduceLeDiff, Nat.reduceBEq, reduceCtorEq, BEq.rfl, Int.reduceLT, Int.reduceLE, Int.reduceAdd, Int.reduceToNat, Int.reduceSub, Int.reduceMul, Int.reduceNeg, Int.reduceEq, *]
    simp [unbe_nil]
  · intro i hi
    have hi : i ≤ 8 := hi
    by_cases h8 : i < 8
    · obtain ⟨c, hc⟩ : ∃ c, n.l[i]? = some c := ⟨_, List.getElem?_eq_getElem (by rw [n.h]; exact h8)⟩
      have hb : unbe (n.l.take i) * 256 < 18446744073709551616 := by
        have h1 := unbe_lt (n.l.take i)
        have h2 : (n.l.take i).length = i := by simp [n.h]; omega
        rw [h2] at h1
        have h3 : 256 ^ i ≤ 256 ^ 7 := Nat.pow_le_pow_right (by decide) (by omega)
        have h4 : (256 : Nat) ^ 7 = 72057594037927936 := by decide
        omega
      have hm : min i 8 = i := by omega
      repeat' (first | (with_reducible intro _) | (with_reducible refine wcond_not ?_) | ((with_reducible refine wcond_dec (fun _ => ?_) (fun _ => ?_)) <;> try (exfalso; omega)) | (with_reducible refine wcond_split (fun _ => ?_) (fun _ => ?_)) | (with_reducible refine draw_ro (by kernel_rfl) ?_) | simp +contextual -implicitDefEqProofs (disch := first | exact dsc _ | fail) only [go_sem, ↓reduceIte, Nat.reduceEqDiff, Nat.reduceAdd, Nat.reduceMul, Nat.reduceSub, Nat.reduceLT, Nat.reduceLeDiff, Nat.reduceBEq, reduceCtorEq, BEq.rfl, Int.reduceLT, Int.reduceLE, Int.reduceAdd, Int.reduceToNat, Int.reduceSub, Int.reduceMul, Int.reduceNeg, Int.reduceEq, *, hc, shl8_run _ hb, or8_run _ _ hb] | (with_reducible refine And.intro (by first | omega | assumption | rfl) ?_))
      refine round_intro (i + 1) (by show i + 1 ≤ 8; omega) (by show 8 - (i + 1) < 8 - i; omega) ?_
      simp +contextual -implicitDefEqProofs (disch := first | exact dsc _ | fail) only [go_sem, push_cast, ↓reduceIte, Nat.reduceEqDiff, Nat.reduceAdd, Nat.reduceMul, Nat.reduceSub, Nat.reduceLT, Nat.reduceLeDiff, Nat.reduceBEq, reduceCtorEq, BEq.rfl, Int.reduceLT, Int.reduceLE, Int.reduceAdd, Int.reduceToNat, Int.reduceSub, Int.reduceMul, Int.reduceNeg, Int.reduceEq, *]
      have : n.l.take (i + 1) = n.l.take i ++ [c] := by rw [List.take_add_one, hc]; rfl
      rw [this, unbe_snoc]
      simp
    · have : i = 8 := by omega
      subst this
      repeat' (first | (with_reducible intro _) | (with_reducible refine wcond_not ?_) | ((with_reducible refine wcond_dec (fun _ => ?_) (fun _ => ?_)) <;> try (exfalso; omega)) | (with_reducible refine wcond_split (fun _ => ?_) (fun _ => ?_)) | (with_reducible refine draw_ro (by kernel_rfl) ?_) | simp +contextual -implicitDefEqProofs (disch := first | exact dsc _ | fail) only [go_sem, ↓reduceIte, Nat.reduceEqDiff, Nat.reduceAdd, Nat.reduceMul, Nat.reduceSub, Nat.reduceLT, Nat.reduceLeDiff, Nat.reduceBEq, reduceCtorEq, BEq.rfl, Int.reduceLT, Int.reduceLE, Int.reduceAdd, Int.reduceToNat, Int.reduceSub, Int.reduceMul, Int.reduceNeg, Int.reduceEq, *] | (with_reducible refine And.intro (by first | omega | assumption | rfl) ?_))
      all_goals ((first | refine Fin_v1 (by rfl) ?_ | refine Fin_vn (by intro h; cases h) ?_ | refine Fin_f1 (by rfl) ?_ | refine Fin_fn (by intro h; cases h) (fun _ => rfl) ?_ | refine Fin_u1 (by rfl) ?_ | refine Fin_un (by intro h; cases h) ?_); try simp +contextual -implicitDefEqProofs (disch := first | exact dsc _ | fail) only [go_sem, push_cast, ↓reduceIte, Nat.reduceEqDiff, Nat.reduceAdd, Nat.reduceMul, Nat.reduceSub, Nat.reduceLT, Nat.reduceLeDiff, Nat.reduceBEq, reduceCtorEq, BEq.rfl, Int.reduceLT, Int.reduceLE, Int.reduceAdd, Int.reduceToNat, Int.reduceSub, Int.reduceMul, Int.reduceNeg, Int.reduceEq, *])
attribute [go_sem ↓] t_forkledgerref1_Number
def sp_forkledgerref1_Less (args : List AV) : RM CallSpec := match args with
  | [x0, x1] => (opt (nmD x0)).bind fun a => (opt (nmD x1)).bind fun b => pureS [nmA a, nmA b] (.bool (ltN a b))
  | _ => .fail
attribute [go_sem] sp_forkledgerref1_Less
theorem t_forkledgerref1_Less (a : Nm) (b : Nm)  : FnG Tryz.prog 106 [nmA a, nmA b] [] (.val (.bool (ltN a b))) = True := by
  refine eq_true ?_
  refine FnG_of_W (sp := spL [(126, sp_forkledgerref1_Number)]) (tb := tbOf Tryz.prog) (tbOf_ok _) (by kernel_rfl) Tryz.func106 (c := _) rfl (by kernel_rfl) (by kernel_rfl) (Nat.le_of_ble_eq_true rfl) (rs := [.tmp 4]) rfl ?_
  unfold FnW
  repeat' (first | (with_reducible intro _) | (with_reducible refine wcond_not ?_) | ((with_reducible refine wcond_dec (fun _ => ?_) (fun _ => ?_)) <;> try (exfalso; omega)) | (with_reducible refine wcond_split (fun _ => ?_) (fun _ => ?_)) | (with_reducible refine draw_ro (by kernel_rfl) ?_) | simp +contextual -implicitDefEqProofs (disch := first | exact dsc _ | fail) only [go_sem, ↓reduceIte, Nat.reduceEqDiff, Nat.reduceAdd, Nat.reduceMul, Nat.reduceSub, Nat.reduceLT, Nat.reduceLeDiff, Nat.reduceBEq, reduceCtorEq, BEq.rfl, Int.reduceLT, Int.reduceLE, Int.reduceAdd, Int.reduceToNat, Int.reduceSub, Int.reduceMul, Int.reduceNeg, Int.reduceEq, *] | (with_reducible refine And.intro (by first | omega | assumption | rfl) ?_))
  all_goals ((first | refine Fin_v1 (by rfl) ?_ | refine Fin_vn (by intro h; cases h) ?_ | refine Fin_f1 (by rfl) ?_ | refine Fin_fn (by intro h; cases h) (fun _ => rfl) ?_ | refine Fin_u1 (by rfl) ?_ | refine Fin_un (by intro h; cases h) ?_); try simp +contextual -implicitDefEqProofs (disch := first | exact dsc _ | fail) only [go_sem, push_cast, ↓reduceIte, Nat.reduceEqDiff, Nat.reduceAdd, Nat.reduceMul, Nat.reduceSub, Nat.reduceLT, Nat.reduceLeDiff, Nat.reduceBEq, reduceCtorEq, BEq.rfl, Int.reduceLT, Int.reduceLE, Int.reduceAdd, Int.reduceToNat, Int.reduceSub, Int.reduceMul, Int.reduceNeg, Int.reduceEq, *])
  all_goals (simp_all [ltN])
attribute [go_sem ↓] t_forkledgerref1_Less
def sp_forkledgerref6_Less (args : List AV) : RM CallSpec := match args with
  | [x0, x1] => (opt (voteD x0)).bind fun a => (opt (voteD x1)).bind fun b => pureS [voteA a, voteA b] (.bool (voteLt a b))
  | _ => .fail
attribute [go_sem] sp_forkledgerref6_Less
theorem t_forkledgerref6_Less (a : Vote) (b : Vote)  : FnG Tryz.prog 80 [voteA a, voteA b] [] (.val (.bool (voteLt a b))) = True := by
  refine eq_true ?_
  refine FnG_of_W (sp := spL [(106, sp_forkledgerref1_Less)]) (tb := tbOf Tryz.prog) (tbOf_ok _) (by kernel_rfl) Tryz.func80 (c := _) rfl (by kernel_rfl) (by kernel_rfl) (Nat.le_of_ble_eq_true rfl) (rs := [.tmp 4]) rfl ?_
  unfold FnW
  repeat' (first | (with_reducible intro _) | (with_reducible refine wcond_not ?_) | ((with_reducible refine wcond_dec (fun _ => ?_) (fun _ => ?_)) <;> try (exfalso; omega)) | (with_reducible refine wcond_split (fun _ => ?_) (fun _ => ?_)) | (with_reducible refine draw_ro (by kernel_rfl) ?_) | simp +contextual -implicitDefEqProofs (disch := first | exact dsc _ | fail) only [go_sem, ↓reduceIte, Nat.reduceEqDiff, Nat.reduceAdd, Nat.reduceMul, Nat.reduceSub, Nat.reduceLT, Nat.reduceLeDiff, Nat.reduceBEq, reduceCtorEq, BEq.rfl, Int.reduceLT, Int.reduceLE, Int.reduceAdd, Int.reduceToNat, Int.reduceSub, Int.reduceMul, Int.reduceNeg, Int.reduceEq, *] | (with_reducible refine And.intro (by first | omega | assumption | rfl) ?_))
  · rename_i r0 r1 h01 hp r2 h2 r3 h3
    refine wloopW (α := Nat) (fun i => ⟨[(7, .int .i64 i), (5, .ptr r2 []), (6, .ptr r3 []), (2, .ptr r0 []), (3, .ptr r1 [])], [(r3, .box (.agg ((la b).map (AV.int .i64)))), (r2, .box (.agg ((la a).map (AV.int .i64)))), (r1, .box (voteA b)), (r0, .box (voteA a))]⟩)
      (fun i => i ≤ 5 ∧ (la a).take i = (la b).take i) (fun i => 5 - i) 0 ⟨by omega, rfl⟩ ?_ ?_
    · simp +contextual -implicitDefEqProofs (disch := first | exact dsc _ | fail) only [go_sem, push_cast, ↓reduceIte, Nat.reduceEqDiff, Nat.reduceAdd, Nat.reduceMul, Nat.reduceSub, Nat.reduceLT, Nat.reduceLeDiff, Nat.reduceBEq, reduceCtorEq, BEq.rfl, Int.reduceLT, Int.reduceLE, Int.reduceAdd, Int.reduceToNat, Int.reduceSub, Int.reduceMul, Int.reduceNeg, Int.reduceEq, la, voteA, List.map_cons, List.map_nil, *]
      all_goals rfl
    · intro i hi
      by_cases h5 : i = 5
      · have he := hi.2
        subst h5
        simp only [la, List.take_succ_cons, List.take_zero, List.cons.injEq, and_true] at he
        repeat' (first | (with_reducible intro _) | (with_reducible refine wcond_not ?_) | ((with_reducible refine wcond_dec (fun _ => ?_) (fun _ => ?_)) <;> try (exfalso; omega)) | (with_reducible refine wcond_split (fun _ => ?_) (fun _ => ?_)) | (with_reducible refine draw_ro (by kernel_rfl) ?_) | simp +contextual -implicitDefEqProofs (disch := first | exact dsc _ | fail) only [go_sem, ↓reduceIte, Nat.reduceEqDiff, Nat.reduceAdd, Nat.reduceMul, Nat.reduceSub, Nat.reduceLT, Nat.reduceLeDiff, Nat.reduceBEq, reduceCtorEq, BEq.rfl, Int.reduceLT, Int.reduceLE, Int.reduceAdd, Int.reduceToNat, Int.reduceSub, Int.reduceMul, Int.reduceNeg, Int.reduceEq, *, la] | (with_reducible refine And.intro (by first | omega | assumption | rfl) ?_))
        all_goals ((first | refine Fin_v1 (by rfl) ?_ | refine Fin_vn (by intro h; cases h) ?_ | refine Fin_f1 (by rfl) ?_ | refine Fin_fn (by intro h; cases h) (fun _ => rfl) ?_ | refine Fin_u1 (by rfl) ?_ | refine Fin_un (by intro h; cases h) ?_); try simp +contextual -implicitDefEqProofs (disch := first | exact dsc _ | fail) only [go_sem, push_cast, ↓reduceIte, Nat.reduceEqDiff, Nat.reduceAdd, Nat.reduceMul, Nat.reduceSub, Nat.reduceLT, Nat.reduceLeDiff, Nat.reduceBEq, reduceCtorEq, BEq.rfl, Int.reduceLT, Int.reduceLE, Int.reduceAdd, Int.reduceToNat, Int.reduceSub, Int.reduceMul, Int.reduceNeg, Int.reduceEq, *])
        all_goals simp_all [voteLt, lexI]
      · obtain h | h | h | h | h : i = 0 ∨ i = 1 ∨ i = 2 ∨ i = 3 ∨ i = 4 := by have := hi.1; omega
        · have he := hi.2
          subst h
          simp only [la, List.take_succ_cons, List.take_zero, List.cons.injEq, and_true] at he
          repeat' (first | (with_reducible intro _) | (with_reducible refine wcond_not ?_) | ((with_reducible refine wcond_dec (fun _ => ?_) (fun _ => ?_)) <;> try (exfalso; omega)) | (with_reducible refine wcond_split (fun _ => ?_) (fun _ => ?_)) | (with_reducible refine draw_ro (by kernel_rfl) ?_) | simp +contextual -implicitDefEqProofs (disch := first | exact dsc _ | fail) only [go_sem, ↓reduceIte, Nat.reduceEqDiff, Nat.reduceAdd, Nat.reduceMul, Nat.reduceSub, Nat.reduceLT, Nat.reduceLeDiff, Nat.reduceBEq, reduceCtorEq, BEq.rfl, Int.reduceLT, Int.reduceLE, Int.reduceAdd, Int.reduceToNat, Int.reduceSub, Int.reduceMul, Int.reduceNeg, Int.reduceEq, *, la] | (with_reducible refine And.intro (by first | omega | assumption | rfl) ?_))
          · refine round_intro 1 (by simp_all [la]) (by simp) ?_
            simp +contextual -implicitDefEqProofs (disch := first | exact dsc _ | fail) only [go_sem, push_cast, ↓reduceIte, Nat.reduceEqDiff, Nat.reduceAdd, Nat.reduceMul, Nat.reduceSub, Nat.reduceLT, Nat.reduceLeDiff, Nat.reduceBEq, reduceCtorEq, BEq.rfl, Int.reduceLT, Int.reduceLE, Int.reduceAdd, Int.reduceToNat, Int.reduceSub, Int.reduceMul, Int.reduceNeg, Int.reduceEq, la, *]
            all_goals simp_all
          · ((first | refine Fin_v1 (by rfl) ?_ | refine Fin_vn (by intro h; cases h) ?_ | refine Fin_f1 (by rfl) ?_ | refine Fin_fn (by intro h; cases h) (fun _ => rfl) ?_ | refine Fin_u1 (by rfl) ?_ | refine Fin_un (by intro h; cases h) ?_); try simp +contextual -implicitDefEqProofs (disch := first | exact dsc _ | fail) only [go_sem, push_cast, ↓reduceIte, Nat.reduceEqDiff, Nat.reduceAdd, Nat.reduceMul, Nat.reduceSub, Nat.reduceLT, Nat.reduceLeDiff, Nat.reduceBEq, reduceCtorEq, BEq.rfl, Int.reduceLT, Int.reduceLE, Int.reduceAdd, Int.reduceToNat, Int.reduceSub, Int.reduceMul, Int.reduceNeg, Int.reduceEq, *])
            simp_all [voteLt, lexI]
        
        · have he := hi.2
          subst h
          simp only [la, List.take_succ_cons, List.take_zero, List.cons.injEq, and_true] at he
          repeat' (first | (with_reducible intro _) | (with_reducible refine wcond_not ?_) | ((with_reducible refine wcond_dec (fun _ => ?_) (fun _ => ?_)) <;> try (exfalso; omega)) | (with_reducible refine wcond_split (fun _ => ?_) (fun _ => ?_)) | (with_reducible refine draw_ro (by kernel_rfl) ?_) | simp +contextual -implicitDefEqProofs (disch := first | exact dsc _ | fail) only [go_sem, ↓reduceIte, Nat.reduceEqDiff, Nat.reduceAdd, Nat.reduceMul, Nat.reduceSub, Nat.reduceLT, Nat.reduceLeDiff, Nat.reduceBEq, reduceCtorEq, BEq.rfl, Int.reduceLT, Int.reduceLE, Int.reduceAdd, Int.reduceToNat, Int.reduceSub, Int.reduceMul, Int.reduceNeg, Int.reduceEq, *, la] | (with_reducible refine And.intro (by first | omega | assumption | rfl) ?_))
          · refine round_intro 2 (by simp_all [la]) (by simp) ?_
            simp +contextual -implicitDefEqProofs (disch := first | exact dsc _ | fail) only [go_sem, push_cast, ↓reduceIte, Nat.reduceEqDiff, Nat.reduceAdd, Nat.reduceMul, Nat.reduceSub, Nat.reduceLT, Nat.reduceLeDiff, Nat.reduceBEq, reduceCtorEq, BEq.rfl, Int.reduceLT, Int.reduceLE, Int.reduceAdd, Int.reduceToNat, Int.reduceSub, Int.reduceMul, Int.reduceNeg, Int.reduceEq, la, *]
            all_goals simp_all
          · ((first | refine Fin_v1 (by rfl) ?_ | refine Fin_vn (by intro h; cases h) ?_ | refine Fin_f1 (by rfl) ?_ | refine Fin_fn (by intro h; cases h) (fun _ => rfl) ?_ | refine Fin_u1 (by rfl) ?_ | refine Fin_un (by intro h; cases h) ?_); try simp +contextual -implicitDefEqProofs (disch := first | exact dsc _ | fail) only [go_sem, push_cast, ↓reduceIte, Nat.reduceEqDiff, Nat.reduceAdd, Nat.reduceMul, Nat.reduceSub, Nat.reduceLT, Nat.reduceLeDiff, Nat.reduceBEq, reduceCtorEq, BEq.rfl, Int.reduceLT, Int.reduceLE, Int.reduceAdd, Int.reduceToNat, Int.reduceSub, Int.reduceMul, Int.reduceNeg, Int.reduceEq, *])
            simp_all [voteLt, lexI]
        
        · have he := hi.2
          subst h
          simp only [la, List.take_succ_cons, List.take_zero, List.cons.injEq, and_true] at he
          repeat' (first | (with_reducible intro _) | (with_reducible refine wcond_not ?_) | ((with_reducible refine wcond_dec (fun _ => ?_) (fun _ => ?_)) <;> try (exfalso; omega)) | (with_reducible refine wcond_split (fun _ => ?_) (fun _ => ?_)) | (with_reducible refine draw_ro (by kernel_rfl) ?_) | simp +contextual -implicitDefEqProofs (disch := first | exact dsc _ | fail) only [go_sem, ↓reduceIte, Nat.reduceEqDiff, Nat.reduceAdd, Nat.reduceMul, Nat.reduceSub, Nat.reduceLT, Nat.reduceLeDiff, Nat.reduceBEq, reduceCtorEq, BEq.rfl, Int.reduceLT, Int.reduceLE, Int.reduceAdd, Int.reduceToNat, Int.reduceSub, Int.reduceMul, Int.reduceNeg, Int.reduceEq, *, la] | (with_reducible refine And.intro (by first | omega | assumption | rfl) ?_))
          · refine round_intro 3 (by simp_all [la]) (by simp) ?_
            simp +contextual -implicitDefEqProofs (disch := first | exact dsc _ | fail) only [go_sem, push_cast, ↓reduceIte, Nat.reduceEqDiff, Nat.reduceAdd, Nat.reduceMul, Nat.reduceSub, Nat.reduceLT, Nat.reduceLeDiff, Nat.reduceBEq, reduceCtorEq, BEq.rfl, Int.reduceLT, Int.reduceLE, Int.reduceAdd, Int.reduceToNat, Int.reduceSub, Int.reduceMul, Int.reduceNeg, Int.reduceEq, la, *]
            all_goals simp_all
          · ((first | refine Fin_v1 (by rfl) ?_ | refine Fin_vn (by intro h; cases h) ?_ | refine Fin_f1 (by rfl) ?_ | refine Fin_fn (by intro h; cases h) (fun _ => rfl) ?_ | refine Fin_u1 (by rfl) ?_ | refine Fin_un (by intro h; cases h) ?_); try simp +contextual -implicitDefEqProofs (disch := first | exact dsc _ | fail) only [go_sem, push_cast, ↓reduceIte, Nat.reduceEqDiff, Nat.reduceAdd, Nat.reduceMul, Nat.reduceSub, Nat.reduceLT, Nat.reduceLeDiff, Nat.reduceBEq, reduceCtorEq, BEq.rfl, Int.reduceLT, Int.reduceLE, Int.reduceAdd, Int.reduceToNat, Int.reduceSub, Int.reduceMul, Int.reduceNeg, Int.reduceEq, *])
            simp_all [voteLt, lexI]
        
        · have he := hi.2
          subst h
          simp only [la, List.take_succ_cons, List.take_zero, List.cons.injEq, and_true] at he
          repeat' (first | (with_reducible intro _) | (with_reducible refine wcond_not ?_) | ((with_reducible refine wcond_dec (fun _ => ?_) (fun _ => ?_)) <;> try (exfalso; omega)) | (with_reducible refine wcond_split (fun _ => ?_) (fun _ => ?_)) | (with_reducible refine draw_ro (by kernel_rfl) ?_) | simp +contextual -implicitDefEqProofs (disch := first | exact dsc _ | fail) only [go_sem, ↓reduceIte, Nat.reduceEqDiff, Nat.reduceAdd, Nat.reduceMul, Nat.reduceSub, Nat.reduceLT, Nat.reduceLeDiff, Nat.reduceBEq, reduceCtorEq, BEq.rfl, Int.reduceLT, Int.reduceLE, Int.reduceAdd, Int.reduceToNat, Int.reduceSub, Int.reduceMul, Int.reduceNeg, Int.reduceEq, *, la] | (with_reducible refine And.intro (by first | omega | assumption | rfl) ?_))
          · refine round_intro 4 (by simp_all [la]) (by simp) ?_
            simp +contextual -implicitDefEqProofs (disch := first | exact dsc _ | fail) only [go_sem, push_cast, ↓reduceIte, Nat.reduceEqDiff, Nat.reduceAdd, Nat.reduceMul, Nat.reduceSub, Nat.reduceLT, Nat.reduceLeDiff, Nat.reduceBEq, reduceCtorEq, BEq.rfl, Int.reduceLT, Int.reduceLE, Int.reduceAdd, Int.reduceToNat, Int.reduceSub, Int.reduceMul, Int.reduceNeg, Int.reduceEq, la, *]
            all_goals simp_all
          · ((first | refine Fin_v1 (by rfl) ?_ | refine Fin_vn (by intro h; cases h) ?_ | refine Fin_f1 (by rfl) ?_ | refine Fin_fn (by intro h; cases h) (fun _ => rfl) ?_ | refine Fin_u1 (by rfl) ?_ | refine Fin_un (by intro h; cases h) ?_); try simp +contextual -implicitDefEqProofs (disch := first | exact dsc _ | fail) only [go_sem, push_cast, ↓reduceIte, Nat.reduceEqDiff, Nat.reduceAdd, Nat.reduceMul, Nat.reduceSub, Nat.reduceLT, Nat.reduceLeDiff, Nat.reduceBEq, reduceCtorEq, BEq.rfl, Int.reduceLT, Int.reduceLE, Int.reduceAdd, Int.reduceToNat, Int.reduceSub, Int.reduceMul, Int.reduceNeg, Int.reduceEq, *])
            simp_all [voteLt, lexI]
        
        · have he := hi.2
          subst h
          simp only [la, List.take_succ_cons, List.take_zero, List.cons.injEq, and_true] at he
          repeat' (first | (with_reducible intro _) | (with_reducible refine wcond_not ?_) | ((with_reducible refine wcond_dec (fun _ => ?_) (fun _ => ?_)) <;> try (exfalso; omega)) | (with_reducible refine wcond_split (fun _ => ?_) (fun _ => ?_)) | (with_reducible refine draw_ro (by kernel_rfl) ?_) | simp +contextual -implicitDefEqProofs (disch := first | exact dsc _ | fail) only [go_sem, ↓reduceIte, Nat.reduceEqDiff, Nat.reduceAdd, Nat.reduceMul, Nat.reduceSub, Nat.reduceLT, Nat.reduceLeDiff, Nat.reduceBEq, reduceCtorEq, BEq.rfl, Int.reduceLT, Int.reduceLE, Int.reduceAdd, Int.reduceToNat, Int.reduceSub, Int.reduceMul, Int.reduceNeg, Int.reduceEq, *, la] | (with_reducible refine And.intro (by first | omega | assumption | rfl) ?_))
          · refine round_intro 5 (by simp_all [la]) (by simp) ?_
            simp +contextual -implicitDefEqProofs (disch := first | exact dsc _ | fail) only [go_sem, push_cast, ↓reduceIte, Nat.reduceEqDiff, Nat.reduceAdd, Nat.reduceMul, Nat.reduceSub, Nat.reduceLT, Nat.reduceLeDiff, Nat.reduceBEq, reduceCtorEq, BEq.rfl, Int.reduceLT, Int.reduceLE, Int.reduceAdd, Int.reduceToNat, Int.reduceSub, Int.reduceMul, Int.reduceNeg, Int.reduceEq, la, *]
            all_goals simp_all
          · ((first | refine Fin_v1 (by rfl) ?_ | refine Fin_vn (by intro h; cases h) ?_ | refine Fin_f1 (by rfl) ?_ | refine Fin_fn (by intro h; cases h) (fun _ => rfl) ?_ | refine Fin_u1 (by rfl) ?_ | refine Fin_un (by intro h; cases h) ?_); try simp +contextual -implicitDefEqProofs (disch := first | exact dsc _ | fail) only [go_sem, push_cast, ↓reduceIte, Nat.reduceEqDiff, Nat.reduceAdd, Nat.reduceMul, Nat.reduceSub, Nat.reduceLT, Nat.reduceLeDiff, Nat.reduceBEq, reduceCtorEq, BEq.rfl, Int.reduceLT, Int.reduceLE, Int.reduceAdd, Int.reduceToNat, Int.reduceSub, Int.reduceMul, Int.reduceNeg, Int.reduceEq, *])
            simp_all [voteLt, lexI]
        
  · ((first | refine Fin_v1 (by rfl) ?_ | refine Fin_vn (by intro h; cases h) ?_ | refine Fin_f1 (by rfl) ?_ | refine Fin_fn (by intro h; cases h) (fun _ => rfl) ?_ | refine Fin_u1 (by rfl) ?_ | refine Fin_un (by intro h; cases h) ?_); try simp +contextual -implicitDefEqProofs (disch := first | exact dsc _ | fail) only [go_sem, push_cast, ↓reduceIte, Nat.reduceEqDiff, Nat.reduceAdd, Nat.reduceMul, Nat.reduceSub, Nat.reduceLT, Nat.reduceLeDiff, Nat.reduceBEq, reduceCtorEq, BEq.rfl, Int.reduceLT, Int.reduceLE, Int.reduceAdd, Int.reduceToNat, Int.reduceSub, Int.reduceMul, Int.reduceNeg, Int.reduceEq, *])
    simp_all [voteLt]
attribute [go_sem ↓] t_forkledgerref6_Less
def sp_forkledgerref6_LessSigned (args : List AV) : RM CallSpec := match args with
  | [x0, x1] => (opt (sgnD x0)).bind fun a => (opt (sgnD x1)).bind fun b => pureS [sgnA a, sgnA b] (.bool (sgnLt a b))
  | _ => .fail
attribute [go_sem] sp_forkledgerref6_LessSigned
theorem t_forkledgerref6_LessSigned (a : Sgn) (b : Sgn)  : FnG Tryz.prog 33 [sgnA a, sgnA b] [] (.val (.bool (sgnLt a b))) = True := by
  refine eq_true ?_
  refine FnG_of_W (sp := spL [(80, sp_forkledgerref6_Less)]) (tb := tbOf Tryz.prog) (tbOf_ok _) (by kernel_rfl) Tryz.func33 (c := _) rfl (by kernel_rfl) (by kernel_rfl) (Nat.le_of_ble_eq_true rfl) (rs := [.tmp 4]) rfl ?_
  unfold FnW
  repeat' (first | (with_reducible intro _) | (with_reducible refine wcond_not ?_) | ((with_reducible refine wcond_dec (fun _ => ?_) (fun _ => ?_)) <;> try (exfalso; omega)) | (with_reducible refine wcond_split (fun _ => ?_) (fun _ => ?_)) | (with_reducible refine draw_ro (by kernel_rfl) ?_) | simp +contextual -implicitDefEqProofs (disch := first | exact dsc _ | fail) only [go_sem, ↓reduceIte, Nat.reduceEqDiff, Nat.reduceAdd, Nat.reduceMul, Nat.reduceSub, Nat.reduceLT, Nat.reduceLeDiff, Nat.reduceBEq, reduceCtorEq, BEq.rfl, Int.reduceLT, Int.reduceLE, Int.reduceAdd, Int.reduceToNat, Int.reduceSub, Int.reduceMul, Int.reduceNeg, Int.reduceEq, *] | (with_reducible refine And.intro (by first | omega | assumption | rfl) ?_))
  all_goals ((first | refine Fin_v1 (by rfl) ?_ | refine Fin_vn (by intro h; cases h) ?_ | refine Fin_f1 (by rfl) ?_ | refine Fin_fn (by intro h; cases h) (fun _ => rfl) ?_ | refine Fin_u1 (by rfl) ?_ | refine Fin_un (by intro h; cases h) ?_); try simp +contextual -implicitDefEqProofs (disch := first | exact dsc _ | fail) only [go_sem, push_cast, ↓reduceIte, Nat.reduceEqDiff, Nat.reduceAdd, Nat.reduceMul, Nat.reduceSub, Nat.reduceLT, Nat.reduceLeDiff, Nat.reduceBEq, reduceCtorEq, BEq.rfl, Int.reduceLT, Int.reduceLE, Int.reduceAdd, Int.reduceToNat, Int.reduceSub, Int.reduceMul, Int.reduceNeg, Int.reduceEq, *])
  all_goals (simp_all [sgnLt])
attribute [go_sem ↓] t_forkledgerref6_LessSigned
end Go.Am.Tryz
