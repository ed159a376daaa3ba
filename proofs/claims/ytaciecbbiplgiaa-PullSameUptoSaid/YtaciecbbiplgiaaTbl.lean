/-
  The types of this seat, as the generator of conditions wants them.
-/
import Derived.Test.YtaciecbbiplgiaaCode
import Derived.Test.YtaciecbbiplgiaaProg
namespace Go.Proofs.Ytaciecbbiplgiaa
open Go.RowKit
namespace tbl
/-- int -/
def t3 : TI := ⟨.int .i64, 1, false, [.d (.int .i64 0)], [], some (.int .i64), 8⟩
/-- bool -/
def t4 : TI := ⟨.bool, 1, false, [.d (.lit false)], [], some .bool, 1⟩
/-- uint8 -/
def t5 : TI := ⟨.int .u8, 1, false, [.d (.int .u8 0)], [], some .u8, 1⟩
/-- string -/
def t9 : TI := ⟨.str, 1, false, [.d (.str [])], [], some .str, 16⟩
/-- int32 -/
def t21 : TI := ⟨.int .i32, 1, false, [.d (.int .i32 0)], [], some (.int .i32), 4⟩
/-- []pentimentoref14.Op -/
def t22 : TI := ⟨.sl 35, 1, false, [.nils], [], some (.sl (.pr (.int .i64) (.pr (.int .i64) (.pr .str (.pr .str (.pr (.int .i64) (.pr (.int .i64) (.pr (.int .i64) (.pr (.sl .u8) .str))))))))), 24⟩
/-- pentimentolaw16.Seat -/
def t24 : TI := ⟨.st, 2, true, [.d (.str []), .d (.str [])], [(0, 1), (1, 1)], some (.pr .str .str), 32⟩
/-- *chain.Chain -/
def t25 : TI := ⟨.ptr 61, 1, false, [.raw (.pointer none)], [], some .adr, 8⟩
/-- api.Errno -/
def t26 : TI := ⟨.int .i64, 1, false, [.d (.int .i64 0)], [], some (.int .i64), 8⟩
/-- []uint8 -/
def t31 : TI := ⟨.sl 5, 1, false, [.nils], [], some (.sl .u8), 24⟩
/-- pentimentoref12.Op -/
def t33 : TI := ⟨.st, 5, true, [.d (.int .i64 0), .d (.int .i64 0), .d (.int .i64 0), .nils, .d (.str [])], [(0, 1), (1, 1), (2, 1), (3, 1), (4, 1)], some (.pr (.int .i64) (.pr (.int .i64) (.pr (.int .i64) (.pr (.sl .u8) .str)))), 64⟩
/-- pentimentoref14.Op -/
def t35 : TI := ⟨.st, 9, true, [.d (.int .i64 0), .d (.int .i64 0), .d (.str []), .d (.str []), .d (.int .i64 0), .d (.int .i64 0), .d (.int .i64 0), .nils, .d (.str [])], [(0, 1), (1, 1), (2, 1), (3, 1), (4, 5)], some (.pr (.int .i64) (.pr (.int .i64) (.pr .str (.pr .str (.pr (.int .i64) (.pr (.int .i64) (.pr (.int .i64) (.pr (.sl .u8) .str)))))))), 112⟩
/-- *pull.Job -/
def t37 : TI := ⟨.ptr 73, 1, false, [.raw (.pointer none)], [], some .adr, 8⟩
/-- *image.Image -/
def t41 : TI := ⟨.ptr 82, 1, false, [.raw (.pointer none)], [], some .adr, 8⟩
/-- []pentimentoref15.Op -/
def t52 : TI := ⟨.sl 54, 1, false, [.nils], [], some (.sl (.pr (.int .i64) (.pr (.int .i64) (.pr (.int .i64) (.pr (.int .i64) (.pr (.sl .u8) .str)))))), 24⟩
/-- pentimentoref15.Op -/
def t54 : TI := ⟨.st, 6, true, [.d (.int .i64 0), .d (.int .i64 0), .d (.int .i64 0), .d (.int .i64 0), .nils, .d (.str [])], [(0, 1), (1, 5)], some (.pr (.int .i64) (.pr (.int .i64) (.pr (.int .i64) (.pr (.int .i64) (.pr (.sl .u8) .str))))), 72⟩
/-- map[string]*chain.disk -/
def t59 : TI := ⟨.mp 9 74, 1, false, [.raw (.map none)], [], none, 8⟩
/-- chain.Chain -/
def t61 : TI := ⟨.st, 3, true, [.d (.int .i64 0), .d (.int .i64 0), .raw (.map none)], [(0, 1), (1, 1), (2, 1)], none, 24⟩
/-- []string -/
def t69 : TI := ⟨.sl 9, 1, false, [.nils], [], some (.sl .str), 24⟩
/-- pull.Job -/
def t73 : TI := ⟨.st, 4, true, [.raw (.pointer none), .d (.str []), .d (.str []), .d (.lit false)], [(0, 1), (1, 1), (2, 1), (3, 1)], some (.pr .adr (.pr .str (.pr .str .bool))), 48⟩
/-- *chain.disk -/
def t74 : TI := ⟨.ptr 76, 1, false, [.raw (.pointer none)], [], some .adr, 8⟩
/-- chain.disk -/
def t76 : TI := ⟨.st, 2, true, [.raw (.pointer none), .d (.str [])], [(0, 1), (1, 1)], some (.pr .adr .str), 24⟩
/-- *table.Table -/
def t77 : TI := ⟨.ptr 105, 1, false, [.raw (.pointer none)], [], some .adr, 8⟩
/-- *counts.Counts -/
def t78 : TI := ⟨.ptr 113, 1, false, [.raw (.pointer none)], [], some .adr, 8⟩
/-- map[int][]uint8 -/
def t79 : TI := ⟨.mp 3 31, 1, false, [.raw (.map none)], [], none, 8⟩
/-- []image.snap -/
def t80 : TI := ⟨.sl 178, 1, false, [.nils], [], some (.sl (.pr .str .adr)), 24⟩
/-- image.Image -/
def t82 : TI := ⟨.st, 5, true, [.d (.int .i64 0), .raw (.pointer none), .raw (.pointer none), .raw (.map none), .nils], [(0, 1), (1, 1), (2, 1), (3, 1), (4, 1)], none, 56⟩
/-- func string  int  bool -/
def t83 : TI := ⟨.other, 1, false, [.raw .nilFunc], [], some .fn, 8⟩
/-- slot.Slot -/
def t86 : TI := ⟨.st, 3, true, [.d (.int .i64 0), .d (.int .i64 0), .d (.lit false)], [(0, 1), (1, 1), (2, 1)], some (.pr (.int .i64) (.pr (.int .i64) .bool)), 24⟩
/-- func string  bool -/
def t92 : TI := ⟨.other, 1, false, [.raw .nilFunc], [], some .fn, 8⟩
/-- func int  []uint8 -/
def t95 : TI := ⟨.other, 1, false, [.raw .nilFunc], [], some .fn, 8⟩
/-- func *image.Image  func int  []uint8  api.Errno -/
def t97 : TI := ⟨.other, 1, false, [.raw .nilFunc], [], some .fn, 8⟩
/-- map[int]table.group -/
def t103 : TI := ⟨.mp 3 109, 1, false, [.raw (.map none)], [], none, 8⟩
/-- table.Table -/
def t105 : TI := ⟨.st, 2, true, [.d (.int .i64 0), .raw (.map none)], [(0, 1), (1, 1)], none, 16⟩
/-- table.group -/
def t109 : TI := ⟨.arr 16 86, 48, true, [.d (.int .i64 0), .d (.int .i64 0), .d (.lit false), .d (.int .i64 0), .d (.int .i64 0), .d (.lit false), .d (.int .i64 0), .d (.int .i64 0), .d (.lit false), .d (.int .i64 0), .d (.int .i64 0), .d (.lit false), .d (.int .i64 0), .d (.int .i64 0), .d (.lit false), .d (.int .i64 0), .d (.int .i64 0), .d (.lit false), .d (.int .i64 0), .d (.int .i64 0), .d (.lit false), .d (.int .i64 0), .d (.int .i64 0), .d (.lit false), .d (.int .i64 0), .d (.int .i64 0), .d (.lit false), .d (.int .i64 0), .d (.int .i64 0), .d (.lit false), .d (.int .i64 0), .d (.int .i64 0), .d (.lit false), .d (.int .i64 0), .d (.int .i64 0), .d (.lit false), .d (.int .i64 0), .d (.int .i64 0), .d (.lit false), .d (.int .i64 0), .d (.int .i64 0), .d (.lit false), .d (.int .i64 0), .d (.int .i64 0), .d (.lit false), .d (.int .i64 0), .d (.int .i64 0), .d (.lit false)], [], some (.arr 16 (.pr (.int .i64) (.pr (.int .i64) .bool))), 384⟩
/-- []int -/
def t111 : TI := ⟨.sl 3, 1, false, [.nils], [], some (.sl (.int .i64)), 24⟩
/-- counts.Counts -/
def t113 : TI := ⟨.st, 1, true, [.nils], [(0, 1)], some (.sl (.int .i64)), 24⟩
/-- func func image.piece  bool  -/
def t114 : TI := ⟨.other, 1, false, [.raw .nilFunc], [], some .fn, 8⟩
/-- image.piece -/
def t117 : TI := ⟨.st, 4, true, [.d (.int .i64 0), .d (.int .i64 0), .d (.int .i64 0), .d (.int .i64 0)], [(0, 1), (1, 1), (2, 1), (3, 1)], some (.pr (.int .i64) (.pr (.int .i64) (.pr (.int .i64) (.int .i64)))), 32⟩
/-- func image.piece  bool -/
def t118 : TI := ⟨.other, 1, false, [.raw .nilFunc], [], some .fn, 8⟩
/-- func func string  bool  -/
def t123 : TI := ⟨.other, 1, false, [.raw .nilFunc], [], some .fn, 8⟩
/-- iter.Seq[string] -/
def t124 : TI := ⟨.other, 1, false, [.raw .nilFunc], [], some .fn, 8⟩
/-- uint -/
def t138 : TI := ⟨.int .u64, 1, false, [.d (.int .u64 0)], [], some (.int .u64), 8⟩
/-- slices.sortedHint -/
def t141 : TI := ⟨.int .i64, 1, false, [.d (.int .i64 0)], [], some (.int .i64), 8⟩
/-- uint32 -/
def t149 : TI := ⟨.int .u32, 1, false, [.d (.int .u32 0)], [], some (.int .u32), 4⟩
/-- uint64 -/
def t151 : TI := ⟨.int .u64, 1, false, [.d (.int .u64 0)], [], some (.int .u64), 8⟩
/-- func int  api.Errno -/
def t153 : TI := ⟨.other, 1, false, [.raw .nilFunc], [], some .fn, 8⟩
/-- slices.xorshift -/
def t154 : TI := ⟨.int .u64, 1, false, [.d (.int .u64 0)], [], some (.int .u64), 8⟩
/-- *int -/
def t158 : TI := ⟨.ptr 3, 1, false, [.raw (.pointer none)], [], some .adr, 8⟩
/-- *slices.xorshift -/
def t160 : TI := ⟨.ptr 154, 1, false, [.raw (.pointer none)], [], some .adr, 8⟩
/-- image.snap -/
def t178 : TI := ⟨.st, 2, true, [.d (.str []), .raw (.pointer none)], [(0, 1), (1, 1)], some (.pr .str .adr), 24⟩
def types : Tr := (.node (.node (.node (.node (.node (.node .leaf 3 t3 .leaf) 4 t4 (.node .leaf 5 t5 .leaf)) 9 t9 (.node (.node .leaf 21 t21 .leaf) 22 t22 .leaf)) 24 t24 (.node (.node (.node .leaf 25 t25 .leaf) 26 t26 .leaf) 31 t31 (.node (.node .leaf 33 t33 .leaf) 35 t35 .leaf))) 37 t37 (.node (.node (.node (.node .leaf 41 t41 .leaf) 52 t52 (.node .leaf 54 t54 .leaf)) 59 t59 (.node (.node .leaf 61 t61 .leaf) 69 t69 .leaf)) 73 t73 (.node (.node (.node .leaf 74 t74 .leaf) 76 t76 .leaf) 77 t77 (.node (.node .leaf 78 t78 .leaf) 79 t79 .leaf)))) 80 t80 (.node (.node (.node (.node (.node .leaf 82 t82 .leaf) 83 t83 (.node .leaf 86 t86 .leaf)) 92 t92 (.node (.node .leaf 95 t95 .leaf) 97 t97 .leaf)) 103 t103 (.node (.node (.node .leaf 105 t105 .leaf) 109 t109 .leaf) 111 t111 (.node (.node .leaf 113 t113 .leaf) 114 t114 .leaf))) 117 t117 (.node (.node (.node (.node .leaf 118 t118 .leaf) 123 t123 (.node .leaf 124 t124 .leaf)) 138 t138 (.node (.node .leaf 141 t141 .leaf) 149 t149 .leaf)) 151 t151 (.node (.node (.node .leaf 153 t153 .leaf) 154 t154 .leaf) 158 t158 (.node (.node .leaf 160 t160 .leaf) 178 t178 .leaf)))))
end tbl
set_option maxRecDepth 100000 in
theorem tblOK : TblOK Try.prog tbl.types := TblOK.of (by kernel_rfl)
theorem mixed : Try.prog.follows .mixedOrders = true := by kernel_rfl
end Go.Proofs.Ytaciecbbiplgiaa
