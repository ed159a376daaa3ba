/-
  The types of this seat, as the generator of conditions wants them.
-/
import Derived.Test.YtbcngglcaeehbaaGreatCode
import Derived.Test.YtbcngglcaeehbaaGreatProg
namespace Go.Proofs.YtbcngglcaeehbaaGreat
open Go.RowKit
namespace tbl
/-- int -/
def t3 : TI := ⟨.int .i64, 1, false, [.d (.int .i64 0)], [], some (.int .i64), 8⟩
/-- bool -/
def t4 : TI := ⟨.bool, 1, false, [.d (.lit false)], [], some .bool, 1⟩
/-- uint8 -/
def t5 : TI := ⟨.int .u8, 1, false, [.d (.int .u8 0)], [], some .u8, 1⟩
/-- string -/
def t9 : TI := ⟨.str, 1, false, [.d (.str [])], [], some .str, 16⟩
/-- int32 -/
def t21 : TI := ⟨.int .i32, 1, false, [.d (.int .i32 0)], [], some (.int .i32), 4⟩
/-- []pentimentoref14.Op -/
def t22 : TI := ⟨.sl 37, 1, false, [.nils], [], some (.sl (.pr (.int .i64) (.pr (.int .i64) (.pr .str (.pr .str (.pr (.int .i64) (.pr (.int .i64) (.pr (.int .i64) (.pr (.sl .u8) .str))))))))), 24⟩
/-- []api.Extent -/
def t23 : TI := ⟨.sl 135, 1, false, [.nils], [], some (.sl (.pr (.int .i64) (.pr (.int .i64) (.int .i64)))), 24⟩
/-- pentimentolaw17.Seat -/
def t25 : TI := ⟨.st, 5, true, [.d (.str []), .d (.lit false), .d (.int .i64 0), .d (.int .i64 0), .nils], [(0, 1), (1, 1), (2, 1), (3, 1), (4, 1)], some (.pr .str (.pr .bool (.pr (.int .i64) (.pr (.int .i64) (.sl (.pr (.int .i64) (.pr (.int .i64) (.int .i64)))))))), 64⟩
/-- []pentimentoref17.Op -/
def t26 : TI := ⟨.sl 39, 1, false, [.nils], [], some (.sl (.pr (.int .i64) (.pr (.int .i64) (.pr (.int .i64) (.pr .str (.pr .str (.pr (.int .i64) (.pr (.int .i64) (.pr (.int .i64) (.pr (.sl .u8) .str)))))))))), 24⟩
/-- *chain.Chain -/
def t29 : TI := ⟨.ptr 102, 1, false, [.raw (.pointer none)], [], some .adr, 8⟩
/-- *push.Job -/
def t30 : TI := ⟨.ptr 86, 1, false, [.raw (.pointer none)], [], some .adr, 8⟩
/-- []uint8 -/
def t33 : TI := ⟨.sl 5, 1, false, [.nils], [], some (.sl .u8), 24⟩
/-- pentimentoref12.Op -/
def t35 : TI := ⟨.st, 5, true, [.d (.int .i64 0), .d (.int .i64 0), .d (.int .i64 0), .nils, .d (.str [])], [(0, 1), (1, 1), (2, 1), (3, 1), (4, 1)], some (.pr (.int .i64) (.pr (.int .i64) (.pr (.int .i64) (.pr (.sl .u8) .str)))), 64⟩
/-- pentimentoref14.Op -/
def t37 : TI := ⟨.st, 9, true, [.d (.int .i64 0), .d (.int .i64 0), .d (.str []), .d (.str []), .d (.int .i64 0), .d (.int .i64 0), .d (.int .i64 0), .nils, .d (.str [])], [(0, 1), (1, 1), (2, 1), (3, 1), (4, 5)], some (.pr (.int .i64) (.pr (.int .i64) (.pr .str (.pr .str (.pr (.int .i64) (.pr (.int .i64) (.pr (.int .i64) (.pr (.sl .u8) .str)))))))), 112⟩
/-- pentimentoref17.Op -/
def t39 : TI := ⟨.st, 10, true, [.d (.int .i64 0), .d (.int .i64 0), .d (.int .i64 0), .d (.str []), .d (.str []), .d (.int .i64 0), .d (.int .i64 0), .d (.int .i64 0), .nils, .d (.str [])], [(0, 1), (1, 9)], some (.pr (.int .i64) (.pr (.int .i64) (.pr (.int .i64) (.pr .str (.pr .str (.pr (.int .i64) (.pr (.int .i64) (.pr (.int .i64) (.pr (.sl .u8) .str))))))))), 120⟩
/-- api.Errno -/
def t40 : TI := ⟨.int .i64, 1, false, [.d (.int .i64 0)], [], some (.int .i64), 8⟩
/-- []push.Piece -/
def t47 : TI := ⟨.sl 51, 1, false, [.nils], [], some (.sl (.pr (.int .i64) (.sl .u8))), 24⟩
/-- push.Piece -/
def t51 : TI := ⟨.st, 2, true, [.d (.int .i64 0), .nils], [(0, 1), (1, 1)], some (.pr (.int .i64) (.sl .u8)), 32⟩
/-- *image.Image -/
def t55 : TI := ⟨.ptr 109, 1, false, [.raw (.pointer none)], [], some .adr, 8⟩
/-- uint -/
def t57 : TI := ⟨.int .u64, 1, false, [.d (.int .u64 0)], [], some (.int .u64), 8⟩
/-- []pentimentoref15.Op -/
def t60 : TI := ⟨.sl 69, 1, false, [.nils], [], some (.sl (.pr (.int .i64) (.pr (.int .i64) (.pr (.int .i64) (.pr (.int .i64) (.pr (.sl .u8) .str)))))), 24⟩
/-- *merge.Job -/
def t65 : TI := ⟨.ptr 121, 1, false, [.raw (.pointer none)], [], some .adr, 8⟩
/-- pentimentoref15.Op -/
def t69 : TI := ⟨.st, 6, true, [.d (.int .i64 0), .d (.int .i64 0), .d (.int .i64 0), .d (.int .i64 0), .nils, .d (.str [])], [(0, 1), (1, 5)], some (.pr (.int .i64) (.pr (.int .i64) (.pr (.int .i64) (.pr (.int .i64) (.pr (.sl .u8) .str))))), 72⟩
/-- *bits.Bits -/
def t77 : TI := ⟨.ptr 172, 1, false, [.raw (.pointer none)], [], some .adr, 8⟩
/-- []bool -/
def t78 : TI := ⟨.sl 4, 1, false, [.nils], [], some (.sl .bool), 24⟩
/-- pentimentoref10.Bits -/
def t80 : TI := ⟨.st, 3, true, [.d (.int .i64 0), .d (.int .i64 0), .nils], [(0, 1), (1, 1), (2, 1)], some (.pr (.int .i64) (.pr (.int .i64) (.sl .bool))), 40⟩
/-- map[int]int -/
def t83 : TI := ⟨.mp 3 3, 1, false, [.raw (.map none)], [], none, 8⟩
/-- map[int][]uint8 -/
def t84 : TI := ⟨.mp 3 33, 1, false, [.raw (.map none)], [], none, 8⟩
/-- push.Job -/
def t86 : TI := ⟨.st, 9, true, [.raw (.pointer none), .d (.str []), .d (.int .i64 0), .d (.int .i64 0), .d (.int .i64 0), .raw (.map none), .raw (.map none), .d (.lit false), .d (.lit false)], [(0, 1), (1, 1), (2, 1), (3, 1), (4, 1), (5, 1), (6, 1), (7, 1), (8, 1)], none, 72⟩
/-- func int  api.Errno -/
def t87 : TI := ⟨.other, 1, false, [.raw .nilFunc], [], some .fn, 8⟩
/-- []int -/
def t88 : TI := ⟨.sl 3, 1, false, [.nils], [], some (.sl (.int .i64)), 24⟩
/-- func func int  bool  -/
def t90 : TI := ⟨.other, 1, false, [.raw .nilFunc], [], some .fn, 8⟩
/-- iter.Seq[int] -/
def t91 : TI := ⟨.other, 1, false, [.raw .nilFunc], [], some .fn, 8⟩
/-- *chain.disk -/
def t99 : TI := ⟨.ptr 104, 1, false, [.raw (.pointer none)], [], some .adr, 8⟩
/-- map[string]*chain.disk -/
def t100 : TI := ⟨.mp 9 99, 1, false, [.raw (.map none)], [], none, 8⟩
/-- chain.Chain -/
def t102 : TI := ⟨.st, 3, true, [.d (.int .i64 0), .d (.int .i64 0), .raw (.map none)], [(0, 1), (1, 1), (2, 1)], none, 24⟩
/-- chain.disk -/
def t104 : TI := ⟨.st, 2, true, [.raw (.pointer none), .d (.str [])], [(0, 1), (1, 1)], some (.pr .adr .str), 24⟩
/-- *table.Table -/
def t105 : TI := ⟨.ptr 145, 1, false, [.raw (.pointer none)], [], some .adr, 8⟩
/-- *counts.Counts -/
def t106 : TI := ⟨.ptr 154, 1, false, [.raw (.pointer none)], [], some .adr, 8⟩
/-- []image.snap -/
def t107 : TI := ⟨.sl 165, 1, false, [.nils], [], some (.sl (.pr .str .adr)), 24⟩
/-- image.Image -/
def t109 : TI := ⟨.st, 5, true, [.d (.int .i64 0), .raw (.pointer none), .raw (.pointer none), .raw (.map none), .nils], [(0, 1), (1, 1), (2, 1), (3, 1), (4, 1)], none, 56⟩
/-- []string -/
def t118 : TI := ⟨.sl 9, 1, false, [.nils], [], some (.sl .str), 24⟩
/-- merge.Job -/
def t121 : TI := ⟨.st, 5, true, [.raw (.pointer none), .d (.str []), .d (.str []), .raw (.map none), .d (.lit false)], [(0, 1), (1, 1), (2, 1), (3, 1), (4, 1)], none, 56⟩
/-- func string  bool -/
def t124 : TI := ⟨.other, 1, false, [.raw .nilFunc], [], some .fn, 8⟩
/-- func int  []uint8 -/
def t126 : TI := ⟨.other, 1, false, [.raw .nilFunc], [], some .fn, 8⟩
/-- func *image.Image  func int  []uint8  api.Errno -/
def t128 : TI := ⟨.other, 1, false, [.raw .nilFunc], [], some .fn, 8⟩
/-- func int  bool -/
def t129 : TI := ⟨.other, 1, false, [.raw .nilFunc], [], some .fn, 8⟩
/-- api.Extent -/
def t135 : TI := ⟨.st, 3, true, [.d (.int .i64 0), .d (.int .i64 0), .d (.int .i64 0)], [(0, 1), (1, 1), (2, 1)], some (.pr (.int .i64) (.pr (.int .i64) (.int .i64))), 24⟩
/-- map[int]table.group -/
def t143 : TI := ⟨.mp 3 185, 1, false, [.raw (.map none)], [], none, 8⟩
/-- table.Table -/
def t145 : TI := ⟨.st, 2, true, [.d (.int .i64 0), .raw (.map none)], [(0, 1), (1, 1)], none, 16⟩
/-- func func image.piece  bool  -/
def t146 : TI := ⟨.other, 1, false, [.raw .nilFunc], [], some .fn, 8⟩
/-- image.piece -/
def t149 : TI := ⟨.st, 4, true, [.d (.int .i64 0), .d (.int .i64 0), .d (.int .i64 0), .d (.int .i64 0)], [(0, 1), (1, 1), (2, 1), (3, 1)], some (.pr (.int .i64) (.pr (.int .i64) (.pr (.int .i64) (.int .i64)))), 32⟩
/-- counts.Counts -/
def t154 : TI := ⟨.st, 1, true, [.nils], [(0, 1)], some (.sl (.int .i64)), 24⟩
/-- slot.Slot -/
def t160 : TI := ⟨.st, 3, true, [.d (.int .i64 0), .d (.int .i64 0), .d (.lit false)], [(0, 1), (1, 1), (2, 1)], some (.pr (.int .i64) (.pr (.int .i64) .bool)), 24⟩
/-- image.snap -/
def t165 : TI := ⟨.st, 2, true, [.d (.str []), .raw (.pointer none)], [(0, 1), (1, 1)], some (.pr .str .adr), 24⟩
/-- func   api.Errno -/
def t166 : TI := ⟨.other, 1, false, [.raw .nilFunc], [], some .fn, 8⟩
/-- map[int]func   api.Errno -/
def t167 : TI := ⟨.mp 3 166, 1, false, [.raw (.map none)], [], none, 8⟩
/-- func image.piece  bool -/
def t169 : TI := ⟨.other, 1, false, [.raw .nilFunc], [], some .fn, 8⟩
/-- bits.Bits -/
def t172 : TI := ⟨.st, 3, true, [.d (.int .i64 0), .d (.int .i64 0), .raw (.map none)], [(0, 1), (1, 1), (2, 1)], none, 24⟩
/-- func int  -/
def t174 : TI := ⟨.other, 1, false, [.raw .nilFunc], [], some .fn, 8⟩
/-- func func string  bool  -/
def t180 : TI := ⟨.other, 1, false, [.raw .nilFunc], [], some .fn, 8⟩
/-- iter.Seq[string] -/
def t181 : TI := ⟨.other, 1, false, [.raw .nilFunc], [], some .fn, 8⟩
/-- table.group -/
def t185 : TI := ⟨.arr 16 160, 48, true, [.d (.int .i64 0), .d (.int .i64 0), .d (.lit false), .d (.int .i64 0), .d (.int .i64 0), .d (.lit false), .d (.int .i64 0), .d (.int .i64 0), .d (.lit false), .d (.int .i64 0), .d (.int .i64 0), .d (.lit false), .d (.int .i64 0), .d (.int .i64 0), .d (.lit false), .d (.int .i64 0), .d (.int .i64 0), .d (.lit false), .d (.int .i64 0), .d (.int .i64 0), .d (.lit false), .d (.int .i64 0), .d (.int .i64 0), .d (.lit false), .d (.int .i64 0), .d (.int .i64 0), .d (.lit false), .d (.int .i64 0), .d (.int .i64 0), .d (.lit false), .d (.int .i64 0), .d (.int .i64 0), .d (.lit false), .d (.int .i64 0), .d (.int .i64 0), .d (.lit false), .d (.int .i64 0), .d (.int .i64 0), .d (.lit false), .d (.int .i64 0), .d (.int .i64 0), .d (.lit false), .d (.int .i64 0), .d (.int .i64 0), .d (.lit false), .d (.int .i64 0), .d (.int .i64 0), .d (.lit false)], [], some (.arr 16 (.pr (.int .i64) (.pr (.int .i64) .bool))), 384⟩
/-- slices.sortedHint -/
def t192 : TI := ⟨.int .i64, 1, false, [.d (.int .i64 0)], [], some (.int .i64), 8⟩
/-- uint32 -/
def t201 : TI := ⟨.int .u32, 1, false, [.d (.int .u32 0)], [], some (.int .u32), 4⟩
/-- uint64 -/
def t203 : TI := ⟨.int .u64, 1, false, [.d (.int .u64 0)], [], some (.int .u64), 8⟩
/-- slices.xorshift -/
def t209 : TI := ⟨.int .u64, 1, false, [.d (.int .u64 0)], [], some (.int .u64), 8⟩
/-- *int -/
def t213 : TI := ⟨.ptr 3, 1, false, [.raw (.pointer none)], [], some .adr, 8⟩
/-- *slices.xorshift -/
def t218 : TI := ⟨.ptr 209, 1, false, [.raw (.pointer none)], [], some .adr, 8⟩
def types : Tr := (.node (.node (.node (.node (.node (.node (.node .leaf 3 t3 .leaf) 4 t4 .leaf) 5 t5 (.node .leaf 9 t9 .leaf)) 21 t21 (.node (.node .leaf 22 t22 .leaf) 23 t23 (.node .leaf 25 t25 .leaf))) 26 t26 (.node (.node (.node (.node .leaf 29 t29 .leaf) 30 t30 .leaf) 33 t33 (.node .leaf 35 t35 .leaf)) 37 t37 (.node (.node .leaf 39 t39 .leaf) 40 t40 (.node .leaf 47 t47 .leaf)))) 51 t51 (.node (.node (.node (.node (.node .leaf 55 t55 .leaf) 57 t57 .leaf) 60 t60 (.node .leaf 65 t65 .leaf)) 69 t69 (.node (.node .leaf 77 t77 .leaf) 78 t78 (.node .leaf 80 t80 .leaf))) 83 t83 (.node (.node (.node .leaf 84 t84 .leaf) 86 t86 (.node .leaf 87 t87 .leaf)) 88 t88 (.node (.node .leaf 90 t90 .leaf) 91 t91 (.node .leaf 99 t99 .leaf))))) 100 t100 (.node (.node (.node (.node (.node (.node .leaf 102 t102 .leaf) 104 t104 .leaf) 105 t105 (.node .leaf 106 t106 .leaf)) 107 t107 (.node (.node .leaf 109 t109 .leaf) 118 t118 (.node .leaf 121 t121 .leaf))) 124 t124 (.node (.node (.node (.node .leaf 126 t126 .leaf) 128 t128 .leaf) 129 t129 (.node .leaf 135 t135 .leaf)) 143 t143 (.node (.node .leaf 145 t145 .leaf) 146 t146 (.node .leaf 149 t149 .leaf)))) 154 t154 (.node (.node (.node (.node (.node .leaf 160 t160 .leaf) 165 t165 .leaf) 166 t166 (.node .leaf 167 t167 .leaf)) 169 t169 (.node (.node .leaf 172 t172 .leaf) 174 t174 (.node .leaf 180 t180 .leaf))) 181 t181 (.node (.node (.node .leaf 185 t185 .leaf) 192 t192 (.node .leaf 201 t201 .leaf)) 203 t203 (.node (.node .leaf 209 t209 .leaf) 213 t213 (.node .leaf 218 t218 .leaf))))))
end tbl
set_option maxRecDepth 100000 in
theorem tblOK : TblOK Tryz.prog tbl.types := TblOK.of (by kernel_rfl)
theorem mixed : Tryz.prog.follows .mixedOrders = true := by kernel_rfl
end Go.Proofs.YtbcngglcaeehbaaGreat
