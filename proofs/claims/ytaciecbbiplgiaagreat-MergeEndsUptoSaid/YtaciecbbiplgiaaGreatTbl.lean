/-
  The types of this seat, as the generator of conditions wants them.
-/
import Derived.Test.YtaciecbbiplgiaaGreatCode
import Derived.Test.YtaciecbbiplgiaaGreatProg
namespace Go.Proofs.YtaciecbbiplgiaaGreat
open Go.RowKit
namespace tbl
/-- int -/
def t3 : TI := ⟨.int .i64, 1, false, [.d (.int .i64 0)], [], some (.int .i64), 8⟩
/-- bool -/
def t4 : TI := ⟨.bool, 1, false, [.d (.lit false)], [], some .bool, 1⟩
/-- uint8 -/
def t5 : TI := ⟨.int .u8, 1, false, [.d (.int .u8 0)], [], some .u8, 1⟩
/-- string -/
def t9 : TI := ⟨.str, 1, false, [.d (.str [])], [], some .str, 16⟩
/-- int32 -/
def t21 : TI := ⟨.int .i32, 1, false, [.d (.int .i32 0)], [], some (.int .i32), 4⟩
/-- []pentimentoref14.Op -/
def t22 : TI := ⟨.sl 34, 1, false, [.nils], [], some (.sl (.pr (.int .i64) (.pr (.int .i64) (.pr .str (.pr .str (.pr (.int .i64) (.pr (.int .i64) (.pr (.int .i64) (.pr (.sl .u8) .str))))))))), 24⟩
/-- []pentimentoref15.Op -/
def t23 : TI := ⟨.sl 40, 1, false, [.nils], [], some (.sl (.pr (.int .i64) (.pr (.int .i64) (.pr (.int .i64) (.pr (.int .i64) (.pr (.sl .u8) .str)))))), 24⟩
/-- *chain.Chain -/
def t24 : TI := ⟨.ptr 83, 1, false, [.raw (.pointer none)], [], some .adr, 8⟩
/-- api.Errno -/
def t25 : TI := ⟨.int .i64, 1, false, [.d (.int .i64 0)], [], some (.int .i64), 8⟩
/-- []uint8 -/
def t30 : TI := ⟨.sl 5, 1, false, [.nils], [], some (.sl .u8), 24⟩
/-- pentimentoref12.Op -/
def t32 : TI := ⟨.st, 5, true, [.d (.int .i64 0), .d (.int .i64 0), .d (.int .i64 0), .nils, .d (.str [])], [(0, 1), (1, 1), (2, 1), (3, 1), (4, 1)], some (.pr (.int .i64) (.pr (.int .i64) (.pr (.int .i64) (.pr (.sl .u8) .str)))), 64⟩
/-- pentimentoref14.Op -/
def t34 : TI := ⟨.st, 9, true, [.d (.int .i64 0), .d (.int .i64 0), .d (.str []), .d (.str []), .d (.int .i64 0), .d (.int .i64 0), .d (.int .i64 0), .nils, .d (.str [])], [(0, 1), (1, 1), (2, 1), (3, 1), (4, 5)], some (.pr (.int .i64) (.pr (.int .i64) (.pr .str (.pr .str (.pr (.int .i64) (.pr (.int .i64) (.pr (.int .i64) (.pr (.sl .u8) .str)))))))), 112⟩
/-- *merge.Job -/
def t36 : TI := ⟨.ptr 93, 1, false, [.raw (.pointer none)], [], some .adr, 8⟩
/-- pentimentoref15.Op -/
def t40 : TI := ⟨.st, 6, true, [.d (.int .i64 0), .d (.int .i64 0), .d (.int .i64 0), .d (.int .i64 0), .nils, .d (.str [])], [(0, 1), (1, 5)], some (.pr (.int .i64) (.pr (.int .i64) (.pr (.int .i64) (.pr (.int .i64) (.pr (.sl .u8) .str))))), 72⟩
/-- *image.Image -/
def t46 : TI := ⟨.ptr 109, 1, false, [.raw (.pointer none)], [], some .adr, 8⟩
/-- pentimentolaw15.Row -/
def t53 : TI := ⟨.st, 2, true, [.d (.int .i64 0), .d (.int .i64 0)], [(0, 1), (1, 1)], some (.pr (.int .i64) (.int .i64)), 16⟩
/-- []api.Extent -/
def t57 : TI := ⟨.sl 158, 1, false, [.nils], [], some (.sl (.pr (.int .i64) (.pr (.int .i64) (.int .i64)))), 24⟩
/-- pentimentolaw17.Seat -/
def t59 : TI := ⟨.st, 5, true, [.d (.str []), .d (.lit false), .d (.int .i64 0), .d (.int .i64 0), .nils], [(0, 1), (1, 1), (2, 1), (3, 1), (4, 1)], some (.pr .str (.pr .bool (.pr (.int .i64) (.pr (.int .i64) (.sl (.pr (.int .i64) (.pr (.int .i64) (.int .i64)))))))), 64⟩
/-- *push.Job -/
def t61 : TI := ⟨.ptr 124, 1, false, [.raw (.pointer none)], [], some .adr, 8⟩
/-- []push.Piece -/
def t64 : TI := ⟨.sl 116, 1, false, [.nils], [], some (.sl (.pr (.int .i64) (.sl .u8))), 24⟩
/-- []pentimentoref17.Op -/
def t70 : TI := ⟨.sl 75, 1, false, [.nils], [], some (.sl (.pr (.int .i64) (.pr (.int .i64) (.pr (.int .i64) (.pr .str (.pr .str (.pr (.int .i64) (.pr (.int .i64) (.pr (.int .i64) (.pr (.sl .u8) .str)))))))))), 24⟩
/-- uint -/
def t71 : TI := ⟨.int .u64, 1, false, [.d (.int .u64 0)], [], some (.int .u64), 8⟩
/-- pentimentoref17.Op -/
def t75 : TI := ⟨.st, 10, true, [.d (.int .i64 0), .d (.int .i64 0), .d (.int .i64 0), .d (.str []), .d (.str []), .d (.int .i64 0), .d (.int .i64 0), .d (.int .i64 0), .nils, .d (.str [])], [(0, 1), (1, 9)], some (.pr (.int .i64) (.pr (.int .i64) (.pr (.int .i64) (.pr .str (.pr .str (.pr (.int .i64) (.pr (.int .i64) (.pr (.int .i64) (.pr (.sl .u8) .str))))))))), 120⟩
/-- map[string]*chain.disk -/
def t81 : TI := ⟨.mp 9 101, 1, false, [.raw (.map none)], [], none, 8⟩
/-- chain.Chain -/
def t83 : TI := ⟨.st, 3, true, [.d (.int .i64 0), .d (.int .i64 0), .raw (.map none)], [(0, 1), (1, 1), (2, 1)], none, 24⟩
/-- []string -/
def t89 : TI := ⟨.sl 9, 1, false, [.nils], [], some (.sl .str), 24⟩
/-- map[int]int -/
def t91 : TI := ⟨.mp 3 3, 1, false, [.raw (.map none)], [], none, 8⟩
/-- merge.Job -/
def t93 : TI := ⟨.st, 5, true, [.raw (.pointer none), .d (.str []), .d (.str []), .raw (.map none), .d (.lit false)], [(0, 1), (1, 1), (2, 1), (3, 1), (4, 1)], none, 56⟩
/-- []int -/
def t95 : TI := ⟨.sl 3, 1, false, [.nils], [], some (.sl (.int .i64)), 24⟩
/-- func func int  bool  -/
def t97 : TI := ⟨.other, 1, false, [.raw .nilFunc], [], some .fn, 8⟩
/-- iter.Seq[int] -/
def t98 : TI := ⟨.other, 1, false, [.raw .nilFunc], [], some .fn, 8⟩
/-- *chain.disk -/
def t101 : TI := ⟨.ptr 103, 1, false, [.raw (.pointer none)], [], some .adr, 8⟩
/-- chain.disk -/
def t103 : TI := ⟨.st, 2, true, [.raw (.pointer none), .d (.str [])], [(0, 1), (1, 1)], some (.pr .adr .str), 24⟩
/-- *table.Table -/
def t104 : TI := ⟨.ptr 150, 1, false, [.raw (.pointer none)], [], some .adr, 8⟩
/-- *counts.Counts -/
def t105 : TI := ⟨.ptr 170, 1, false, [.raw (.pointer none)], [], some .adr, 8⟩
/-- map[int][]uint8 -/
def t106 : TI := ⟨.mp 3 30, 1, false, [.raw (.map none)], [], none, 8⟩
/-- []image.snap -/
def t107 : TI := ⟨.sl 174, 1, false, [.nils], [], some (.sl (.pr .str .adr)), 24⟩
/-- image.Image -/
def t109 : TI := ⟨.st, 5, true, [.d (.int .i64 0), .raw (.pointer none), .raw (.pointer none), .raw (.map none), .nils], [(0, 1), (1, 1), (2, 1), (3, 1), (4, 1)], none, 56⟩
/-- slot.Slot -/
def t111 : TI := ⟨.st, 3, true, [.d (.int .i64 0), .d (.int .i64 0), .d (.lit false)], [(0, 1), (1, 1), (2, 1)], some (.pr (.int .i64) (.pr (.int .i64) .bool)), 24⟩
/-- push.Piece -/
def t116 : TI := ⟨.st, 2, true, [.d (.int .i64 0), .nils], [(0, 1), (1, 1)], some (.pr (.int .i64) (.sl .u8)), 32⟩
/-- *bits.Bits -/
def t117 : TI := ⟨.ptr 184, 1, false, [.raw (.pointer none)], [], some .adr, 8⟩
/-- []bool -/
def t118 : TI := ⟨.sl 4, 1, false, [.nils], [], some (.sl .bool), 24⟩
/-- pentimentoref10.Bits -/
def t120 : TI := ⟨.st, 3, true, [.d (.int .i64 0), .d (.int .i64 0), .nils], [(0, 1), (1, 1), (2, 1)], some (.pr (.int .i64) (.pr (.int .i64) (.sl .bool))), 40⟩
/-- push.Job -/
def t124 : TI := ⟨.st, 9, true, [.raw (.pointer none), .d (.str []), .d (.int .i64 0), .d (.int .i64 0), .d (.int .i64 0), .raw (.map none), .raw (.map none), .d (.lit false), .d (.lit false)], [(0, 1), (1, 1), (2, 1), (3, 1), (4, 1), (5, 1), (6, 1), (7, 1), (8, 1)], none, 72⟩
/-- func int  api.Errno -/
def t125 : TI := ⟨.other, 1, false, [.raw .nilFunc], [], some .fn, 8⟩
/-- func string  bool -/
def t135 : TI := ⟨.other, 1, false, [.raw .nilFunc], [], some .fn, 8⟩
/-- func int  []uint8 -/
def t137 : TI := ⟨.other, 1, false, [.raw .nilFunc], [], some .fn, 8⟩
/-- func *image.Image  func int  []uint8  api.Errno -/
def t139 : TI := ⟨.other, 1, false, [.raw .nilFunc], [], some .fn, 8⟩
/-- func int  bool -/
def t144 : TI := ⟨.other, 1, false, [.raw .nilFunc], [], some .fn, 8⟩
/-- func   api.Errno -/
def t145 : TI := ⟨.other, 1, false, [.raw .nilFunc], [], some .fn, 8⟩
/-- map[int]func   api.Errno -/
def t146 : TI := ⟨.mp 3 145, 1, false, [.raw (.map none)], [], none, 8⟩
/-- map[int]table.group -/
def t148 : TI := ⟨.mp 3 152, 1, false, [.raw (.map none)], [], none, 8⟩
/-- table.Table -/
def t150 : TI := ⟨.st, 2, true, [.d (.int .i64 0), .raw (.map none)], [(0, 1), (1, 1)], none, 16⟩
/-- table.group -/
def t152 : TI := ⟨.arr 16 111, 48, true, [.d (.int .i64 0), .d (.int .i64 0), .d (.lit false), .d (.int .i64 0), .d (.int .i64 0), .d (.lit false), .d (.int .i64 0), .d (.int .i64 0), .d (.lit false), .d (.int .i64 0), .d (.int .i64 0), .d (.lit false), .d (.int .i64 0), .d (.int .i64 0), .d (.lit false), .d (.int .i64 0), .d (.int .i64 0), .d (.lit false), .d (.int .i64 0), .d (.int .i64 0), .d (.lit false), .d (.int .i64 0), .d (.int .i64 0), .d (.lit false), .d (.int .i64 0), .d (.int .i64 0), .d (.lit false), .d (.int .i64 0), .d (.int .i64 0), .d (.lit false), .d (.int .i64 0), .d (.int .i64 0), .d (.lit false), .d (.int .i64 0), .d (.int .i64 0), .d (.lit false), .d (.int .i64 0), .d (.int .i64 0), .d (.lit false), .d (.int .i64 0), .d (.int .i64 0), .d (.lit false), .d (.int .i64 0), .d (.int .i64 0), .d (.lit false), .d (.int .i64 0), .d (.int .i64 0), .d (.lit false)], [], some (.arr 16 (.pr (.int .i64) (.pr (.int .i64) .bool))), 384⟩
/-- api.Extent -/
def t158 : TI := ⟨.st, 3, true, [.d (.int .i64 0), .d (.int .i64 0), .d (.int .i64 0)], [(0, 1), (1, 1), (2, 1)], some (.pr (.int .i64) (.pr (.int .i64) (.int .i64))), 24⟩
/-- func func image.piece  bool  -/
def t162 : TI := ⟨.other, 1, false, [.raw .nilFunc], [], some .fn, 8⟩
/-- image.piece -/
def t165 : TI := ⟨.st, 4, true, [.d (.int .i64 0), .d (.int .i64 0), .d (.int .i64 0), .d (.int .i64 0)], [(0, 1), (1, 1), (2, 1), (3, 1)], some (.pr (.int .i64) (.pr (.int .i64) (.pr (.int .i64) (.int .i64)))), 32⟩
/-- counts.Counts -/
def t170 : TI := ⟨.st, 1, true, [.nils], [(0, 1)], some (.sl (.int .i64)), 24⟩
/-- image.snap -/
def t174 : TI := ⟨.st, 2, true, [.d (.str []), .raw (.pointer none)], [(0, 1), (1, 1)], some (.pr .str .adr), 24⟩
/-- func image.piece  bool -/
def t175 : TI := ⟨.other, 1, false, [.raw .nilFunc], [], some .fn, 8⟩
/-- func func string  bool  -/
def t179 : TI := ⟨.other, 1, false, [.raw .nilFunc], [], some .fn, 8⟩
/-- iter.Seq[string] -/
def t180 : TI := ⟨.other, 1, false, [.raw .nilFunc], [], some .fn, 8⟩
/-- bits.Bits -/
def t184 : TI := ⟨.st, 3, true, [.d (.int .i64 0), .d (.int .i64 0), .raw (.map none)], [(0, 1), (1, 1), (2, 1)], none, 24⟩
/-- func int  -/
def t186 : TI := ⟨.other, 1, false, [.raw .nilFunc], [], some .fn, 8⟩
/-- slices.sortedHint -/
def t200 : TI := ⟨.int .i64, 1, false, [.d (.int .i64 0)], [], some (.int .i64), 8⟩
/-- uint32 -/
def t209 : TI := ⟨.int .u32, 1, false, [.d (.int .u32 0)], [], some (.int .u32), 4⟩
/-- uint64 -/
def t211 : TI := ⟨.int .u64, 1, false, [.d (.int .u64 0)], [], some (.int .u64), 8⟩
/-- slices.xorshift -/
def t216 : TI := ⟨.int .u64, 1, false, [.d (.int .u64 0)], [], some (.int .u64), 8⟩
/-- *int -/
def t220 : TI := ⟨.ptr 3, 1, false, [.raw (.pointer none)], [], some .adr, 8⟩
/-- *slices.xorshift -/
def t229 : TI := ⟨.ptr 216, 1, false, [.raw (.pointer none)], [], some .adr, 8⟩
def types : Tr := (.node (.node (.node (.node (.node (.node (.node .leaf 3 t3 .leaf) 4 t4 .leaf) 5 t5 (.node .leaf 9 t9 .leaf)) 21 t21 (.node (.node .leaf 22 t22 .leaf) 23 t23 (.node .leaf 24 t24 .leaf))) 25 t25 (.node (.node (.node (.node .leaf 30 t30 .leaf) 32 t32 .leaf) 34 t34 (.node .leaf 36 t36 .leaf)) 40 t40 (.node (.node .leaf 46 t46 .leaf) 53 t53 (.node .leaf 57 t57 .leaf)))) 59 t59 (.node (.node (.node (.node (.node .leaf 61 t61 .leaf) 64 t64 .leaf) 70 t70 (.node .leaf 71 t71 .leaf)) 75 t75 (.node (.node .leaf 81 t81 .leaf) 83 t83 (.node .leaf 89 t89 .leaf))) 91 t91 (.node (.node (.node (.node .leaf 93 t93 .leaf) 95 t95 .leaf) 97 t97 (.node .leaf 98 t98 .leaf)) 101 t101 (.node (.node .leaf 103 t103 .leaf) 104 t104 (.node .leaf 105 t105 .leaf))))) 106 t106 (.node (.node (.node (.node (.node (.node .leaf 107 t107 .leaf) 109 t109 .leaf) 111 t111 (.node .leaf 116 t116 .leaf)) 117 t117 (.node (.node .leaf 118 t118 .leaf) 120 t120 (.node .leaf 124 t124 .leaf))) 125 t125 (.node (.node (.node (.node .leaf 135 t135 .leaf) 137 t137 .leaf) 139 t139 (.node .leaf 144 t144 .leaf)) 145 t145 (.node (.node .leaf 146 t146 .leaf) 148 t148 (.node .leaf 150 t150 .leaf)))) 152 t152 (.node (.node (.node (.node (.node .leaf 158 t158 .leaf) 162 t162 .leaf) 165 t165 (.node .leaf 170 t170 .leaf)) 174 t174 (.node (.node .leaf 175 t175 .leaf) 179 t179 (.node .leaf 180 t180 .leaf))) 184 t184 (.node (.node (.node .leaf 186 t186 .leaf) 200 t200 (.node .leaf 209 t209 .leaf)) 211 t211 (.node (.node .leaf 216 t216 .leaf) 220 t220 (.node .leaf 229 t229 .leaf))))))
end tbl
set_option maxRecDepth 100000 in
theorem tblOK : TblOK Tryz.prog tbl.types := TblOK.of (by kernel_rfl)
theorem mixed : Tryz.prog.follows .mixedOrders = true := by kernel_rfl
end Go.Proofs.YtaciecbbiplgiaaGreat
