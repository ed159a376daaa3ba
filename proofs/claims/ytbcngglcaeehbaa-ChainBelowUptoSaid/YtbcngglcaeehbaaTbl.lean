/-
  The types of this seat, as the generator of conditions wants them.
-/
import Derived.Test.YtbcngglcaeehbaaCode
import Derived.Test.YtbcngglcaeehbaaProg
namespace Go.Proofs.Ytbcngglcaeehbaa
open Go.RowKit
namespace tbl
/-- int -/
def t3 : TI := ⟨.int .i64, 1, false, [.d (.int .i64 0)], [], some (.int .i64), 8⟩
/-- bool -/
def t4 : TI := ⟨.bool, 1, false, [.d (.lit false)], [], some .bool, 1⟩
/-- uint8 -/
def t5 : TI := ⟨.int .u8, 1, false, [.d (.int .u8 0)], [], some .u8, 1⟩
/-- string -/
def t9 : TI := ⟨.str, 1, false, [.d (.str [])], [], some .str, 16⟩
/-- int32 -/
def t21 : TI := ⟨.int .i32, 1, false, [.d (.int .i32 0)], [], some (.int .i32), 4⟩
/-- []pentimentoref14.Op -/
def t22 : TI := ⟨.sl 33, 1, false, [.nils], [], some (.sl (.pr (.int .i64) (.pr (.int .i64) (.pr .str (.pr .str (.pr (.int .i64) (.pr (.int .i64) (.pr (.int .i64) (.pr (.sl .u8) .str))))))))), 24⟩
/-- *chain.Chain -/
def t23 : TI := ⟨.ptr 54, 1, false, [.raw (.pointer none)], [], some .adr, 8⟩
/-- api.Errno -/
def t24 : TI := ⟨.int .i64, 1, false, [.d (.int .i64 0)], [], some (.int .i64), 8⟩
/-- []uint8 -/
def t29 : TI := ⟨.sl 5, 1, false, [.nils], [], some (.sl .u8), 24⟩
/-- pentimentoref12.Op -/
def t31 : TI := ⟨.st, 5, true, [.d (.int .i64 0), .d (.int .i64 0), .d (.int .i64 0), .nils, .d (.str [])], [(0, 1), (1, 1), (2, 1), (3, 1), (4, 1)], some (.pr (.int .i64) (.pr (.int .i64) (.pr (.int .i64) (.pr (.sl .u8) .str)))), 64⟩
/-- pentimentoref14.Op -/
def t33 : TI := ⟨.st, 9, true, [.d (.int .i64 0), .d (.int .i64 0), .d (.str []), .d (.str []), .d (.int .i64 0), .d (.int .i64 0), .d (.int .i64 0), .nils, .d (.str [])], [(0, 1), (1, 1), (2, 1), (3, 1), (4, 5)], some (.pr (.int .i64) (.pr (.int .i64) (.pr .str (.pr .str (.pr (.int .i64) (.pr (.int .i64) (.pr (.int .i64) (.pr (.sl .u8) .str)))))))), 112⟩
/-- []string -/
def t37 : TI := ⟨.sl 9, 1, false, [.nils], [], some (.sl .str), 24⟩
/-- *image.Image -/
def t40 : TI := ⟨.ptr 77, 1, false, [.raw (.pointer none)], [], some .adr, 8⟩
/-- uint -/
def t43 : TI := ⟨.int .u64, 1, false, [.d (.int .u64 0)], [], some (.int .u64), 8⟩
/-- map[string]*chain.disk -/
def t52 : TI := ⟨.mp 9 64, 1, false, [.raw (.map none)], [], none, 8⟩
/-- chain.Chain -/
def t54 : TI := ⟨.st, 3, true, [.d (.int .i64 0), .d (.int .i64 0), .raw (.map none)], [(0, 1), (1, 1), (2, 1)], none, 24⟩
/-- []api.Extent -/
def t56 : TI := ⟨.sl 62, 1, false, [.nils], [], some (.sl (.pr (.int .i64) (.pr (.int .i64) (.int .i64)))), 24⟩
/-- api.Extent -/
def t62 : TI := ⟨.st, 3, true, [.d (.int .i64 0), .d (.int .i64 0), .d (.int .i64 0)], [(0, 1), (1, 1), (2, 1)], some (.pr (.int .i64) (.pr (.int .i64) (.int .i64))), 24⟩
/-- *chain.disk -/
def t64 : TI := ⟨.ptr 66, 1, false, [.raw (.pointer none)], [], some .adr, 8⟩
/-- chain.disk -/
def t66 : TI := ⟨.st, 2, true, [.raw (.pointer none), .d (.str [])], [(0, 1), (1, 1)], some (.pr .adr .str), 24⟩
/-- func func string  bool  -/
def t69 : TI := ⟨.other, 1, false, [.raw .nilFunc], [], some .fn, 8⟩
/-- iter.Seq[string] -/
def t70 : TI := ⟨.other, 1, false, [.raw .nilFunc], [], some .fn, 8⟩
/-- *table.Table -/
def t72 : TI := ⟨.ptr 105, 1, false, [.raw (.pointer none)], [], some .adr, 8⟩
/-- *counts.Counts -/
def t73 : TI := ⟨.ptr 115, 1, false, [.raw (.pointer none)], [], some .adr, 8⟩
/-- map[int][]uint8 -/
def t74 : TI := ⟨.mp 3 29, 1, false, [.raw (.map none)], [], none, 8⟩
/-- []image.snap -/
def t75 : TI := ⟨.sl 101, 1, false, [.nils], [], some (.sl (.pr .str .adr)), 24⟩
/-- image.Image -/
def t77 : TI := ⟨.st, 5, true, [.d (.int .i64 0), .raw (.pointer none), .raw (.pointer none), .raw (.map none), .nils], [(0, 1), (1, 1), (2, 1), (3, 1), (4, 1)], none, 56⟩
/-- func int  []uint8 -/
def t81 : TI := ⟨.other, 1, false, [.raw .nilFunc], [], some .fn, 8⟩
/-- func *image.Image  func int  []uint8  api.Errno -/
def t83 : TI := ⟨.other, 1, false, [.raw .nilFunc], [], some .fn, 8⟩
/-- func string  bool -/
def t88 : TI := ⟨.other, 1, false, [.raw .nilFunc], [], some .fn, 8⟩
/-- []int -/
def t90 : TI := ⟨.sl 3, 1, false, [.nils], [], some (.sl (.int .i64)), 24⟩
/-- image.snap -/
def t101 : TI := ⟨.st, 2, true, [.d (.str []), .raw (.pointer none)], [(0, 1), (1, 1)], some (.pr .str .adr), 24⟩
/-- map[int]table.group -/
def t103 : TI := ⟨.mp 3 124, 1, false, [.raw (.map none)], [], none, 8⟩
/-- table.Table -/
def t105 : TI := ⟨.st, 2, true, [.d (.int .i64 0), .raw (.map none)], [(0, 1), (1, 1)], none, 16⟩
/-- func func image.piece  bool  -/
def t106 : TI := ⟨.other, 1, false, [.raw .nilFunc], [], some .fn, 8⟩
/-- image.piece -/
def t109 : TI := ⟨.st, 4, true, [.d (.int .i64 0), .d (.int .i64 0), .d (.int .i64 0), .d (.int .i64 0)], [(0, 1), (1, 1), (2, 1), (3, 1)], some (.pr (.int .i64) (.pr (.int .i64) (.pr (.int .i64) (.int .i64)))), 32⟩
/-- func image.piece  bool -/
def t111 : TI := ⟨.other, 1, false, [.raw .nilFunc], [], some .fn, 8⟩
/-- counts.Counts -/
def t115 : TI := ⟨.st, 1, true, [.nils], [(0, 1)], some (.sl (.int .i64)), 24⟩
/-- slot.Slot -/
def t121 : TI := ⟨.st, 3, true, [.d (.int .i64 0), .d (.int .i64 0), .d (.lit false)], [(0, 1), (1, 1), (2, 1)], some (.pr (.int .i64) (.pr (.int .i64) .bool)), 24⟩
/-- table.group -/
def t124 : TI := ⟨.arr 16 121, 48, true, [.d (.int .i64 0), .d (.int .i64 0), .d (.lit false), .d (.int .i64 0), .d (.int .i64 0), .d (.lit false), .d (.int .i64 0), .d (.int .i64 0), .d (.lit false), .d (.int .i64 0), .d (.int .i64 0), .d (.lit false), .d (.int .i64 0), .d (.int .i64 0), .d (.lit false), .d (.int .i64 0), .d (.int .i64 0), .d (.lit false), .d (.int .i64 0), .d (.int .i64 0), .d (.lit false), .d (.int .i64 0), .d (.int .i64 0), .d (.lit false), .d (.int .i64 0), .d (.int .i64 0), .d (.lit false), .d (.int .i64 0), .d (.int .i64 0), .d (.lit false), .d (.int .i64 0), .d (.int .i64 0), .d (.lit false), .d (.int .i64 0), .d (.int .i64 0), .d (.lit false), .d (.int .i64 0), .d (.int .i64 0), .d (.lit false), .d (.int .i64 0), .d (.int .i64 0), .d (.lit false), .d (.int .i64 0), .d (.int .i64 0), .d (.lit false), .d (.int .i64 0), .d (.int .i64 0), .d (.lit false)], [], some (.arr 16 (.pr (.int .i64) (.pr (.int .i64) .bool))), 384⟩
/-- slices.sortedHint -/
def t139 : TI := ⟨.int .i64, 1, false, [.d (.int .i64 0)], [], some (.int .i64), 8⟩
/-- uint32 -/
def t148 : TI := ⟨.int .u32, 1, false, [.d (.int .u32 0)], [], some (.int .u32), 4⟩
/-- uint64 -/
def t150 : TI := ⟨.int .u64, 1, false, [.d (.int .u64 0)], [], some (.int .u64), 8⟩
/-- slices.xorshift -/
def t152 : TI := ⟨.int .u64, 1, false, [.d (.int .u64 0)], [], some (.int .u64), 8⟩
/-- *int -/
def t156 : TI := ⟨.ptr 3, 1, false, [.raw (.pointer none)], [], some .adr, 8⟩
/-- func int  api.Errno -/
def t159 : TI := ⟨.other, 1, false, [.raw .nilFunc], [], some .fn, 8⟩
/-- *slices.xorshift -/
def t160 : TI := ⟨.ptr 152, 1, false, [.raw (.pointer none)], [], some .adr, 8⟩
def types : Tr := (.node (.node (.node (.node (.node (.node .leaf 3 t3 .leaf) 4 t4 .leaf) 5 t5 (.node (.node .leaf 9 t9 .leaf) 21 t21 .leaf)) 22 t22 (.node (.node (.node .leaf 23 t23 .leaf) 24 t24 .leaf) 29 t29 (.node (.node .leaf 31 t31 .leaf) 33 t33 .leaf))) 37 t37 (.node (.node (.node (.node .leaf 40 t40 .leaf) 43 t43 .leaf) 52 t52 (.node (.node .leaf 54 t54 .leaf) 56 t56 .leaf)) 62 t62 (.node (.node (.node .leaf 64 t64 .leaf) 66 t66 .leaf) 69 t69 (.node (.node .leaf 70 t70 .leaf) 72 t72 .leaf)))) 73 t73 (.node (.node (.node (.node (.node .leaf 74 t74 .leaf) 75 t75 .leaf) 77 t77 (.node (.node .leaf 81 t81 .leaf) 83 t83 .leaf)) 88 t88 (.node (.node (.node .leaf 90 t90 .leaf) 101 t101 .leaf) 103 t103 (.node (.node .leaf 105 t105 .leaf) 106 t106 .leaf))) 109 t109 (.node (.node (.node (.node .leaf 111 t111 .leaf) 115 t115 .leaf) 121 t121 (.node (.node .leaf 124 t124 .leaf) 139 t139 .leaf)) 148 t148 (.node (.node (.node .leaf 150 t150 .leaf) 152 t152 .leaf) 156 t156 (.node (.node .leaf 159 t159 .leaf) 160 t160 .leaf)))))
end tbl
set_option maxRecDepth 100000 in
theorem tblOK : TblOK Try.prog tbl.types := TblOK.of (by kernel_rfl)
theorem mixed : Try.prog.follows .mixedOrders = true := by kernel_rfl
end Go.Proofs.Ytbcngglcaeehbaa
