/-
  The types of this seat, as the generator of conditions wants them.
-/
import Derived.Test.YtclklmajbnadcaaCode
import Derived.Test.YtclklmajbnadcaaProg
namespace Go.Proofs.Ytclklmajbnadcaa
open Go.RowKit
namespace tbl
/-- int -/
def t3 : TI := ⟨.int .i64, 1, false, [.d (.int .i64 0)], [], some (.int .i64), 8⟩
/-- bool -/
def t4 : TI := ⟨.bool, 1, false, [.d (.lit false)], [], some .bool, 1⟩
/-- uint8 -/
def t5 : TI := ⟨.int .u8, 1, false, [.d (.int .u8 0)], [], some .u8, 1⟩
/-- string -/
def t9 : TI := ⟨.str, 1, false, [.d (.str [])], [], some .str, 16⟩
/-- int32 -/
def t21 : TI := ⟨.int .i32, 1, false, [.d (.int .i32 0)], [], some (.int .i32), 4⟩
/-- []pentimentoref14.Op -/
def t22 : TI := ⟨.sl 27, 1, false, [.nils], [], some (.sl (.pr (.int .i64) (.pr (.int .i64) (.pr .str (.pr .str (.pr (.int .i64) (.pr (.int .i64) (.pr (.int .i64) (.pr (.sl .u8) .str))))))))), 24⟩
/-- []uint8 -/
def t23 : TI := ⟨.sl 5, 1, false, [.nils], [], some (.sl .u8), 24⟩
/-- pentimentoref12.Op -/
def t25 : TI := ⟨.st, 5, true, [.d (.int .i64 0), .d (.int .i64 0), .d (.int .i64 0), .nils, .d (.str [])], [(0, 1), (1, 1), (2, 1), (3, 1), (4, 1)], some (.pr (.int .i64) (.pr (.int .i64) (.pr (.int .i64) (.pr (.sl .u8) .str)))), 64⟩
/-- pentimentoref14.Op -/
def t27 : TI := ⟨.st, 9, true, [.d (.int .i64 0), .d (.int .i64 0), .d (.str []), .d (.str []), .d (.int .i64 0), .d (.int .i64 0), .d (.int .i64 0), .nils, .d (.str [])], [(0, 1), (1, 1), (2, 1), (3, 1), (4, 5)], some (.pr (.int .i64) (.pr (.int .i64) (.pr .str (.pr .str (.pr (.int .i64) (.pr (.int .i64) (.pr (.int .i64) (.pr (.sl .u8) .str)))))))), 112⟩
/-- *chain.Chain -/
def t28 : TI := ⟨.ptr 69, 1, false, [.raw (.pointer none)], [], some .adr, 8⟩
/-- api.Errno -/
def t29 : TI := ⟨.int .i64, 1, false, [.d (.int .i64 0)], [], some (.int .i64), 8⟩
/-- *image.Image -/
def t36 : TI := ⟨.ptr 80, 1, false, [.raw (.pointer none)], [], some .adr, 8⟩
/-- uint -/
def t40 : TI := ⟨.int .u64, 1, false, [.d (.int .u64 0)], [], some (.int .u64), 8⟩
/-- []string -/
def t46 : TI := ⟨.sl 9, 1, false, [.nils], [], some (.sl .str), 24⟩
/-- []api.Extent -/
def t53 : TI := ⟨.sl 57, 1, false, [.nils], [], some (.sl (.pr (.int .i64) (.pr (.int .i64) (.int .i64)))), 24⟩
/-- api.Extent -/
def t57 : TI := ⟨.st, 3, true, [.d (.int .i64 0), .d (.int .i64 0), .d (.int .i64 0)], [(0, 1), (1, 1), (2, 1)], some (.pr (.int .i64) (.pr (.int .i64) (.int .i64))), 24⟩
/-- map[string]*chain.disk -/
def t67 : TI := ⟨.mp 9 71, 1, false, [.raw (.map none)], [], none, 8⟩
/-- chain.Chain -/
def t69 : TI := ⟨.st, 3, true, [.d (.int .i64 0), .d (.int .i64 0), .raw (.map none)], [(0, 1), (1, 1), (2, 1)], none, 24⟩
/-- *chain.disk -/
def t71 : TI := ⟨.ptr 73, 1, false, [.raw (.pointer none)], [], some .adr, 8⟩
/-- chain.disk -/
def t73 : TI := ⟨.st, 2, true, [.raw (.pointer none), .d (.str [])], [(0, 1), (1, 1)], some (.pr .adr .str), 24⟩
/-- func string  bool -/
def t74 : TI := ⟨.other, 1, false, [.raw .nilFunc], [], some .fn, 8⟩
/-- *table.Table -/
def t75 : TI := ⟨.ptr 107, 1, false, [.raw (.pointer none)], [], some .adr, 8⟩
/-- *counts.Counts -/
def t76 : TI := ⟨.ptr 127, 1, false, [.raw (.pointer none)], [], some .adr, 8⟩
/-- map[int][]uint8 -/
def t77 : TI := ⟨.mp 3 23, 1, false, [.raw (.map none)], [], none, 8⟩
/-- []image.snap -/
def t78 : TI := ⟨.sl 124, 1, false, [.nils], [], some (.sl (.pr .str .adr)), 24⟩
/-- image.Image -/
def t80 : TI := ⟨.st, 5, true, [.d (.int .i64 0), .raw (.pointer none), .raw (.pointer none), .raw (.map none), .nils], [(0, 1), (1, 1), (2, 1), (3, 1), (4, 1)], none, 56⟩
/-- func int  []uint8 -/
def t83 : TI := ⟨.other, 1, false, [.raw .nilFunc], [], some .fn, 8⟩
/-- func *image.Image  func int  []uint8  api.Errno -/
def t85 : TI := ⟨.other, 1, false, [.raw .nilFunc], [], some .fn, 8⟩
/-- func func string  bool  -/
def t88 : TI := ⟨.other, 1, false, [.raw .nilFunc], [], some .fn, 8⟩
/-- iter.Seq[string] -/
def t89 : TI := ⟨.other, 1, false, [.raw .nilFunc], [], some .fn, 8⟩
/-- []int -/
def t91 : TI := ⟨.sl 3, 1, false, [.nils], [], some (.sl (.int .i64)), 24⟩
/-- slot.Slot -/
def t96 : TI := ⟨.st, 3, true, [.d (.int .i64 0), .d (.int .i64 0), .d (.lit false)], [(0, 1), (1, 1), (2, 1)], some (.pr (.int .i64) (.pr (.int .i64) .bool)), 24⟩
/-- map[int]table.group -/
def t105 : TI := ⟨.mp 3 119, 1, false, [.raw (.map none)], [], none, 8⟩
/-- table.Table -/
def t107 : TI := ⟨.st, 2, true, [.d (.int .i64 0), .raw (.map none)], [(0, 1), (1, 1)], none, 16⟩
/-- func func image.piece  bool  -/
def t108 : TI := ⟨.other, 1, false, [.raw .nilFunc], [], some .fn, 8⟩
/-- image.piece -/
def t111 : TI := ⟨.st, 4, true, [.d (.int .i64 0), .d (.int .i64 0), .d (.int .i64 0), .d (.int .i64 0)], [(0, 1), (1, 1), (2, 1), (3, 1)], some (.pr (.int .i64) (.pr (.int .i64) (.pr (.int .i64) (.int .i64)))), 32⟩
/-- func image.piece  bool -/
def t113 : TI := ⟨.other, 1, false, [.raw .nilFunc], [], some .fn, 8⟩
/-- table.group -/
def t119 : TI := ⟨.arr 16 96, 48, true, [.d (.int .i64 0), .d (.int .i64 0), .d (.lit false), .d (.int .i64 0), .d (.int .i64 0), .d (.lit false), .d (.int .i64 0), .d (.int .i64 0), .d (.lit false), .d (.int .i64 0), .d (.int .i64 0), .d (.lit false), .d (.int .i64 0), .d (.int .i64 0), .d (.lit false), .d (.int .i64 0), .d (.int .i64 0), .d (.lit false), .d (.int .i64 0), .d (.int .i64 0), .d (.lit false), .d (.int .i64 0), .d (.int .i64 0), .d (.lit false), .d (.int .i64 0), .d (.int .i64 0), .d (.lit false), .d (.int .i64 0), .d (.int .i64 0), .d (.lit false), .d (.int .i64 0), .d (.int .i64 0), .d (.lit false), .d (.int .i64 0), .d (.int .i64 0), .d (.lit false), .d (.int .i64 0), .d (.int .i64 0), .d (.lit false), .d (.int .i64 0), .d (.int .i64 0), .d (.lit false), .d (.int .i64 0), .d (.int .i64 0), .d (.lit false), .d (.int .i64 0), .d (.int .i64 0), .d (.lit false)], [], some (.arr 16 (.pr (.int .i64) (.pr (.int .i64) .bool))), 384⟩
/-- image.snap -/
def t124 : TI := ⟨.st, 2, true, [.d (.str []), .raw (.pointer none)], [(0, 1), (1, 1)], some (.pr .str .adr), 24⟩
/-- counts.Counts -/
def t127 : TI := ⟨.st, 1, true, [.nils], [(0, 1)], some (.sl (.int .i64)), 24⟩
/-- slices.sortedHint -/
def t142 : TI := ⟨.int .i64, 1, false, [.d (.int .i64 0)], [], some (.int .i64), 8⟩
/-- uint32 -/
def t151 : TI := ⟨.int .u32, 1, false, [.d (.int .u32 0)], [], some (.int .u32), 4⟩
/-- uint64 -/
def t153 : TI := ⟨.int .u64, 1, false, [.d (.int .u64 0)], [], some (.int .u64), 8⟩
/-- func int  api.Errno -/
def t156 : TI := ⟨.other, 1, false, [.raw .nilFunc], [], some .fn, 8⟩
/-- slices.xorshift -/
def t157 : TI := ⟨.int .u64, 1, false, [.d (.int .u64 0)], [], some (.int .u64), 8⟩
/-- *int -/
def t161 : TI := ⟨.ptr 3, 1, false, [.raw (.pointer none)], [], some .adr, 8⟩
/-- *slices.xorshift -/
def t163 : TI := ⟨.ptr 157, 1, false, [.raw (.pointer none)], [], some .adr, 8⟩
def types : Tr := (.node (.node (.node (.node (.node (.node .leaf 3 t3 .leaf) 4 t4 .leaf) 5 t5 (.node (.node .leaf 9 t9 .leaf) 21 t21 .leaf)) 22 t22 (.node (.node (.node .leaf 23 t23 .leaf) 25 t25 .leaf) 27 t27 (.node (.node .leaf 28 t28 .leaf) 29 t29 .leaf))) 36 t36 (.node (.node (.node (.node .leaf 40 t40 .leaf) 46 t46 .leaf) 53 t53 (.node (.node .leaf 57 t57 .leaf) 67 t67 .leaf)) 69 t69 (.node (.node (.node .leaf 71 t71 .leaf) 73 t73 .leaf) 74 t74 (.node (.node .leaf 75 t75 .leaf) 76 t76 .leaf)))) 77 t77 (.node (.node (.node (.node (.node .leaf 78 t78 .leaf) 80 t80 .leaf) 83 t83 (.node (.node .leaf 85 t85 .leaf) 88 t88 .leaf)) 89 t89 (.node (.node (.node .leaf 91 t91 .leaf) 96 t96 .leaf) 105 t105 (.node (.node .leaf 107 t107 .leaf) 108 t108 .leaf))) 111 t111 (.node (.node (.node (.node .leaf 113 t113 .leaf) 119 t119 .leaf) 124 t124 (.node (.node .leaf 127 t127 .leaf) 142 t142 .leaf)) 151 t151 (.node (.node (.node .leaf 153 t153 .leaf) 156 t156 .leaf) 157 t157 (.node (.node .leaf 161 t161 .leaf) 163 t163 .leaf)))))
end tbl
set_option maxRecDepth 100000 in
theorem tblOK : TblOK Try.prog tbl.types := TblOK.of (by kernel_rfl)
theorem mixed : Try.prog.follows .mixedOrders = true := by kernel_rfl
end Go.Proofs.Ytclklmajbnadcaa
