/- The seat's types. -/
import Derived.Test.YthpapgbpmkgfeaaAm25
import Derived.Test.YthpapgbpmkgfeaaRows
import Derived.KernelRfl
namespace Go.Proofs.Ythpapgbpmkgfeaa.AM
open Go Go.RowKit

theorem hmix : Try.prog.follows .mixedOrders = true := by kernel_rfl
theorem E2 : envOf Try.prog 2 = some { agg := false, cmp := [], size := 1, bytes := 8, shape := .int .i64, zero := [.d (.int .i64 0)] } := by kernel_rfl
theorem E3 : envOf Try.prog 3 = some { agg := false, cmp := [], size := 1, bytes := 8, shape := .int .i64, zero := [.d (.int .i64 0)] } := by kernel_rfl
theorem E4 : envOf Try.prog 4 = some { agg := false, cmp := [], size := 1, bytes := 1, shape := .bool, zero := [.d (.bool false)] } := by kernel_rfl
theorem E5 : envOf Try.prog 5 = some { agg := false, cmp := [], size := 1, bytes := 1, shape := .int .u8, zero := [.d (.int .u8 0)] } := by kernel_rfl
theorem E6 : envOf Try.prog 6 = some { agg := false, cmp := [], size := 1, bytes := 1, shape := .int .u8, zero := [.d (.int .u8 0)] } := by kernel_rfl
theorem E7 : envOf Try.prog 7 = some { agg := true, cmp := [false, false, true, false], size := 4, bytes := 24, shape := .struct [(0, 1), (1, 1), (2, 1), (3, 1)], zero := [.d (.int .i64 0), .d (.int .i64 0), .d (.bool false), .d (.int .u8 0)] } := by kernel_rfl
theorem E8 : envOf Try.prog 8 = some { agg := true, cmp := [false, false, true, false], size := 4, bytes := 24, shape := .struct [(0, 1), (1, 1), (2, 1), (3, 1)], zero := [.d (.int .i64 0), .d (.int .i64 0), .d (.bool false), .d (.int .u8 0)] } := by kernel_rfl
theorem E12 : envOf Try.prog 12 = some { agg := false, cmp := [], size := 1, bytes := 8, shape := .int .u64, zero := [.d (.int .u64 0)] } := by kernel_rfl
theorem E15 : envOf Try.prog 15 = some { agg := false, cmp := [], size := 1, bytes := 8, shape := .other, zero := [.d .nilp] } := by kernel_rfl
theorem E16 : envOf Try.prog 16 = some { agg := false, cmp := [], size := 1, bytes := 8, shape := .other, zero := [.d .nilp] } := by kernel_rfl
theorem E17 : envOf Try.prog 17 = some { agg := false, cmp := [], size := 1, bytes := 8, shape := .other, zero := [.d .nilp] } := by kernel_rfl
theorem E18 : envOf Try.prog 18 = some { agg := true, cmp := [], size := 1, bytes := 8, shape := .struct [(0, 1)], zero := [.d .nilp] } := by kernel_rfl
theorem E19 : envOf Try.prog 19 = some { agg := true, cmp := [], size := 1, bytes := 8, shape := .struct [(0, 1)], zero := [.d .nilp] } := by kernel_rfl
theorem E21 : envOf Try.prog 21 = some { agg := false, cmp := [], size := 1, bytes := 4, shape := .int .i32, zero := [.d (.int .i32 0)] } := by kernel_rfl
theorem E22 : envOf Try.prog 22 = some { agg := false, cmp := [], size := 1, bytes := 24, shape := .slice 27, zero := [.nils] } := by kernel_rfl
theorem E23 : envOf Try.prog 23 = some { agg := false, cmp := [], size := 1, bytes := 24, shape := .slice 3, zero := [.nils] } := by kernel_rfl
theorem E24 : envOf Try.prog 24 = some { agg := true, cmp := [], size := 2, bytes := 48, shape := .struct [(0, 1), (1, 1)], zero := [.nils, .nils] } := by kernel_rfl
theorem E25 : envOf Try.prog 25 = some { agg := true, cmp := [], size := 2, bytes := 48, shape := .struct [(0, 1), (1, 1)], zero := [.nils, .nils] } := by kernel_rfl
theorem E26 : envOf Try.prog 26 = some { agg := true, cmp := [false, false], size := 2, bytes := 16, shape := .struct [(0, 1), (1, 1)], zero := [.d (.int .i64 0), .d (.int .i64 0)] } := by kernel_rfl
theorem E27 : envOf Try.prog 27 = some { agg := true, cmp := [false, false], size := 2, bytes := 16, shape := .struct [(0, 1), (1, 1)], zero := [.d (.int .i64 0), .d (.int .i64 0)] } := by kernel_rfl
theorem E30 : envOf Try.prog 30 = some { agg := true, cmp := [], size := 2, bytes := 48, shape := .struct [(0, 1), (1, 1)], zero := [.nils, .nils] } := by kernel_rfl
theorem E32 : envOf Try.prog 32 = some { agg := false, cmp := [], size := 1, bytes := 8, shape := .int .i64, zero := [.d (.int .i64 0)] } := by kernel_rfl
theorem E50 : envOf Try.prog 50 = some { agg := false, cmp := [], size := 1, bytes := 2, shape := .int .u16, zero := [.d (.int .u16 0)] } := by kernel_rfl
theorem E53 : envOf Try.prog 53 = some { agg := false, cmp := [], size := 1, bytes := 24, shape := .slice 57, zero := [.nils] } := by kernel_rfl
theorem E56 : envOf Try.prog 56 = some { agg := true, cmp := [true, false], size := 2, bytes := 16, shape := .struct [(0, 1), (1, 1)], zero := [.d (.bool false), .d (.int .i64 0)] } := by kernel_rfl
theorem E57 : envOf Try.prog 57 = some { agg := true, cmp := [true, false], size := 2, bytes := 16, shape := .struct [(0, 1), (1, 1)], zero := [.d (.bool false), .d (.int .i64 0)] } := by kernel_rfl
theorem E71 : envOf Try.prog 71 = some { agg := false, cmp := [], size := 1, bytes := 4, shape := .int .u32, zero := [.d (.int .u32 0)] } := by kernel_rfl
theorem E94 : envOf Try.prog 94 = some { agg := false, cmp := [], size := 1, bytes := 24, shape := .slice 4, zero := [.nils] } := by kernel_rfl
theorem E96 : envOf Try.prog 96 = some { agg := false, cmp := [], size := 1, bytes := 24, shape := .slice 3, zero := [.nils] } := by kernel_rfl
theorem E106 : envOf Try.prog 106 = some { agg := false, cmp := [], size := 1, bytes := 8, shape := .int .u64, zero := [.d (.int .u64 0)] } := by kernel_rfl
theorem E111 : envOf Try.prog 111 = some { agg := false, cmp := [], size := 1, bytes := 8, shape := .int .i64, zero := [.d (.int .i64 0)] } := by kernel_rfl
theorem E119 : envOf Try.prog 119 = some { agg := false, cmp := [], size := 1, bytes := 8, shape := .int .u64, zero := [.d (.int .u64 0)] } := by kernel_rfl
theorem E120 : envOf Try.prog 120 = some { agg := false, cmp := [], size := 1, bytes := 8, shape := .int .u64, zero := [.d (.int .u64 0)] } := by kernel_rfl
theorem E124 : envOf Try.prog 124 = some { agg := false, cmp := [], size := 1, bytes := 8, shape := .other, zero := [.d .nilp] } := by kernel_rfl
theorem E126 : envOf Try.prog 126 = some { agg := false, cmp := [], size := 1, bytes := 8, shape := .other, zero := [.d .nilp] } := by kernel_rfl
theorem E131 : envOf Try.prog 131 = some { agg := true, cmp := [], size := 0, bytes := 0, shape := .array 0 16, zero := [] } := by kernel_rfl
theorem E132 : envOf Try.prog 132 = some { agg := true, cmp := [], size := 0, bytes := 0, shape := .struct [(0, 0)], zero := [] } := by kernel_rfl
theorem E133 : envOf Try.prog 133 = some { agg := true, cmp := [], size := 0, bytes := 0, shape := .struct [(0, 0)], zero := [] } := by kernel_rfl
theorem E135 : envOf Try.prog 135 = some { agg := false, cmp := [], size := 1, bytes := 1, shape := .int .u8, zero := [.d (.int .u8 0)] } := by kernel_rfl
theorem E136 : envOf Try.prog 136 = some { agg := false, cmp := [], size := 1, bytes := 1, shape := .int .u8, zero := [.d (.int .u8 0)] } := by kernel_rfl
theorem E138 : envOf Try.prog 138 = some { agg := false, cmp := [], size := 1, bytes := 8, shape := .other, zero := [.d .nilp] } := by kernel_rfl
theorem E139 : envOf Try.prog 139 = some { agg := false, cmp := [], size := 1, bytes := 4, shape := .int .i32, zero := [.d (.int .i32 0)] } := by kernel_rfl
theorem E140 : envOf Try.prog 140 = some { agg := false, cmp := [], size := 1, bytes := 4, shape := .int .i32, zero := [.d (.int .i32 0)] } := by kernel_rfl
theorem E141 : envOf Try.prog 141 = some { agg := true, cmp := [], size := 11, bytes := 48, shape := .struct [(0, 1), (1, 1), (2, 1), (3, 1), (4, 1), (5, 1), (6, 1), (7, 1), (8, 1), (9, 1), (10, 1)], zero := [.d (.int .u64 0), .d (.int .u64 0), .d (.int .u32 0), .d (.int .u8 0), .d (.int .u8 0), .d (.int .u8 0), .d (.int .u8 0), .d .nilf, .d .nilp, .d (.int .i32 0), .d (.int .i32 0)] } := by kernel_rfl
theorem E142 : envOf Try.prog 142 = some { agg := true, cmp := [], size := 11, bytes := 48, shape := .struct [(0, 1), (1, 1), (2, 1), (3, 1), (4, 1), (5, 1), (6, 1), (7, 1), (8, 1), (9, 1), (10, 1)], zero := [.d (.int .u64 0), .d (.int .u64 0), .d (.int .u32 0), .d (.int .u8 0), .d (.int .u8 0), .d (.int .u8 0), .d (.int .u8 0), .d .nilf, .d .nilp, .d (.int .i32 0), .d (.int .i32 0)] } := by kernel_rfl

end Go.Proofs.Ythpapgbpmkgfeaa.AM
