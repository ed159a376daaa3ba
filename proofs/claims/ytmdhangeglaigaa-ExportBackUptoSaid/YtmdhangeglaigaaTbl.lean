/-
  The types of this seat, as the generator of conditions wants them.
-/
import Derived.Test.YtmdhangeglaigaaCode
import Derived.Test.YtmdhangeglaigaaProg
namespace Go.Proofs.Ytmdhangeglaigaa
open Go.RowKit
namespace tbl
/-- int -/
def t3 : TI := ⟨.int .i64, 1, false, [.d (.int .i64 0)], [], some (.int .i64), 8⟩
/-- bool -/
def t4 : TI := ⟨.bool, 1, false, [.d (.lit false)], [], some .bool, 1⟩
/-- uint8 -/
def t5 : TI := ⟨.int .u8, 1, false, [.d (.int .u8 0)], [], some .u8, 1⟩
/-- string -/
def t9 : TI := ⟨.str, 1, false, [.d (.str [])], [], some .str, 16⟩
/-- int32 -/
def t21 : TI := ⟨.int .i32, 1, false, [.d (.int .i32 0)], [], some (.int .i32), 4⟩
/-- pentimentoref20.Request -/
def t23 : TI := ⟨.st, 5, true, [.d (.int .i64 0), .d (.int .i64 0), .d (.int .i64 0), .d (.int .i64 0), .d (.int .i64 0)], [(0, 1), (1, 1), (2, 1), (3, 1), (4, 1)], some (.pr (.int .i64) (.pr (.int .i64) (.pr (.int .i64) (.pr (.int .i64) (.int .i64))))), 40⟩
/-- api.Errno -/
def t24 : TI := ⟨.int .i64, 1, false, [.d (.int .i64 0)], [], some (.int .i64), 8⟩
/-- pentimentoref20.Reply -/
def t26 : TI := ⟨.st, 3, true, [.d (.int .i64 0), .d (.int .i64 0), .d (.str [])], [(0, 1), (1, 1), (2, 1)], some (.pr (.int .i64) (.pr (.int .i64) .str)), 32⟩
/-- []uint8 -/
def t28 : TI := ⟨.sl 5, 1, false, [.nils], [], some (.sl .u8), 24⟩
/-- export.Request -/
def t31 : TI := ⟨.st, 5, true, [.d (.int .i64 0), .d (.int .i64 0), .d (.int .i64 0), .d (.int .i64 0), .d (.int .i64 0)], [(0, 1), (1, 1), (2, 1), (3, 1), (4, 1)], some (.pr (.int .i64) (.pr (.int .i64) (.pr (.int .i64) (.pr (.int .i64) (.int .i64))))), 40⟩
/-- export.Reply -/
def t36 : TI := ⟨.st, 3, true, [.d (.int .i64 0), .d (.int .i64 0), .nils], [(0, 1), (1, 1), (2, 1)], some (.pr (.int .i64) (.pr (.int .i64) (.sl .u8))), 40⟩
/-- []export.Reply -/
def t37 : TI := ⟨.sl 36, 1, false, [.nils], [], some (.sl (.pr (.int .i64) (.pr (.int .i64) (.sl .u8)))), 24⟩
/-- *chain.Chain -/
def t41 : TI := ⟨.ptr 72, 1, false, [.raw (.pointer none)], [], some .adr, 8⟩
/-- *dir.Dir -/
def t44 : TI := ⟨.ptr 75, 1, false, [.raw (.pointer none)], [], some .adr, 8⟩
/-- []api.Extent -/
def t49 : TI := ⟨.sl 53, 1, false, [.nils], [], some (.sl (.pr (.int .i64) (.pr (.int .i64) (.int .i64)))), 24⟩
/-- api.Extent -/
def t53 : TI := ⟨.st, 3, true, [.d (.int .i64 0), .d (.int .i64 0), .d (.int .i64 0)], [(0, 1), (1, 1), (2, 1)], some (.pr (.int .i64) (.pr (.int .i64) (.int .i64))), 24⟩
/-- export.field -/
def t57 : TI := ⟨.st, 2, true, [.d (.int .i64 0), .d (.int .i64 0)], [(0, 1), (1, 1)], some (.pr (.int .i64) (.int .i64)), 16⟩
/-- *octets.Reader -/
def t60 : TI := ⟨.ptr 88, 1, false, [.raw (.pointer none)], [], some .adr, 8⟩
/-- *image.Image -/
def t67 : TI := ⟨.ptr 100, 1, false, [.raw (.pointer none)], [], some .adr, 8⟩
/-- map[string]*chain.disk -/
def t70 : TI := ⟨.mp 9 77, 1, false, [.raw (.map none)], [], none, 8⟩
/-- chain.Chain -/
def t72 : TI := ⟨.st, 3, true, [.d (.int .i64 0), .d (.int .i64 0), .raw (.map none)], [(0, 1), (1, 1), (2, 1)], none, 24⟩
/-- map[string]*dir.Entry -/
def t73 : TI := ⟨.mp 9 132, 1, false, [.raw (.map none)], [], none, 8⟩
/-- dir.Dir -/
def t75 : TI := ⟨.st, 1, true, [.raw (.map none)], [(0, 1)], none, 8⟩
/-- func string  bool -/
def t76 : TI := ⟨.other, 1, false, [.raw .nilFunc], [], some .fn, 8⟩
/-- *chain.disk -/
def t77 : TI := ⟨.ptr 81, 1, false, [.raw (.pointer none)], [], some .adr, 8⟩
/-- []string -/
def t78 : TI := ⟨.sl 9, 1, false, [.nils], [], some (.sl .str), 24⟩
/-- chain.disk -/
def t81 : TI := ⟨.st, 2, true, [.raw (.pointer none), .d (.str [])], [(0, 1), (1, 1)], some (.pr .adr .str), 24⟩
/-- export.server -/
def t83 : TI := ⟨.st, 3, true, [.raw (.pointer none), .d (.str []), .raw (.pointer none)], [(0, 1), (1, 1), (2, 1)], some (.pr .adr (.pr .str .adr)), 32⟩
/-- []export.field -/
def t85 : TI := ⟨.sl 57, 1, false, [.nils], [], some (.sl (.pr (.int .i64) (.int .i64))), 24⟩
/-- octets.Reader -/
def t88 : TI := ⟨.st, 2, true, [.nils, .d (.int .i64 0)], [(0, 1), (1, 1)], some (.pr (.sl .u8) (.int .i64)), 32⟩
/-- uint -/
def t90 : TI := ⟨.int .u64, 1, false, [.d (.int .u64 0)], [], some (.int .u64), 8⟩
/-- *table.Table -/
def t91 : TI := ⟨.ptr 108, 1, false, [.raw (.pointer none)], [], some .adr, 8⟩
/-- *counts.Counts -/
def t94 : TI := ⟨.ptr 110, 1, false, [.raw (.pointer none)], [], some .adr, 8⟩
/-- map[int][]uint8 -/
def t97 : TI := ⟨.mp 3 28, 1, false, [.raw (.map none)], [], none, 8⟩
/-- []image.snap -/
def t98 : TI := ⟨.sl 199, 1, false, [.nils], [], some (.sl (.pr .str .adr)), 24⟩
/-- image.Image -/
def t100 : TI := ⟨.st, 5, true, [.d (.int .i64 0), .raw (.pointer none), .raw (.pointer none), .raw (.map none), .nils], [(0, 1), (1, 1), (2, 1), (3, 1), (4, 1)], none, 56⟩
/-- func export.server  export.Request   []uint8  api.Errno  -/
def t101 : TI := ⟨.other, 1, false, [.raw .nilFunc], [], some .fn, 8⟩
/-- map[int]func export.server  export.Request   []uint8  api.Er -/
def t102 : TI := ⟨.mp 3 101, 1, false, [.raw (.map none)], [], none, 8⟩
/-- []int -/
def t103 : TI := ⟨.sl 3, 1, false, [.nils], [], some (.sl (.int .i64)), 24⟩
/-- func api.Errno  []uint8 -/
def t105 : TI := ⟨.other, 1, false, [.raw .nilFunc], [], some .fn, 8⟩
/-- map[int]table.group -/
def t106 : TI := ⟨.mp 3 160, 1, false, [.raw (.map none)], [], none, 8⟩
/-- table.Table -/
def t108 : TI := ⟨.st, 2, true, [.d (.int .i64 0), .raw (.map none)], [(0, 1), (1, 1)], none, 16⟩
/-- counts.Counts -/
def t110 : TI := ⟨.st, 1, true, [.nils], [(0, 1)], some (.sl (.int .i64)), 24⟩
/-- *bits.Bits -/
def t115 : TI := ⟨.ptr 138, 1, false, [.raw (.pointer none)], [], some .adr, 8⟩
/-- dir.Entry -/
def t117 : TI := ⟨.st, 4, true, [.d (.str []), .d (.lit false), .d (.lit false), .raw (.pointer none)], [(0, 1), (1, 1), (2, 1), (3, 1)], some (.pr .str (.pr .bool (.pr .bool .adr))), 32⟩
/-- func func string  bool  -/
def t129 : TI := ⟨.other, 1, false, [.raw .nilFunc], [], some .fn, 8⟩
/-- iter.Seq[string] -/
def t130 : TI := ⟨.other, 1, false, [.raw .nilFunc], [], some .fn, 8⟩
/-- *dir.Entry -/
def t132 : TI := ⟨.ptr 117, 1, false, [.raw (.pointer none)], [], some .adr, 8⟩
/-- func *dir.Entry  -/
def t135 : TI := ⟨.other, 1, false, [.raw .nilFunc], [], some .fn, 8⟩
/-- map[int]int -/
def t136 : TI := ⟨.mp 3 3, 1, false, [.raw (.map none)], [], none, 8⟩
/-- bits.Bits -/
def t138 : TI := ⟨.st, 3, true, [.d (.int .i64 0), .d (.int .i64 0), .raw (.map none)], [(0, 1), (1, 1), (2, 1)], none, 24⟩
/-- func func image.piece  bool  -/
def t140 : TI := ⟨.other, 1, false, [.raw .nilFunc], [], some .fn, 8⟩
/-- image.piece -/
def t143 : TI := ⟨.st, 4, true, [.d (.int .i64 0), .d (.int .i64 0), .d (.int .i64 0), .d (.int .i64 0)], [(0, 1), (1, 1), (2, 1), (3, 1)], some (.pr (.int .i64) (.pr (.int .i64) (.pr (.int .i64) (.int .i64)))), 32⟩
/-- func image.piece  bool -/
def t149 : TI := ⟨.other, 1, false, [.raw .nilFunc], [], some .fn, 8⟩
/-- func int  []uint8 -/
def t150 : TI := ⟨.other, 1, false, [.raw .nilFunc], [], some .fn, 8⟩
/-- slot.Slot -/
def t152 : TI := ⟨.st, 3, true, [.d (.int .i64 0), .d (.int .i64 0), .d (.lit false)], [(0, 1), (1, 1), (2, 1)], some (.pr (.int .i64) (.pr (.int .i64) .bool)), 24⟩
/-- table.group -/
def t160 : TI := ⟨.arr 16 152, 48, true, [.d (.int .i64 0), .d (.int .i64 0), .d (.lit false), .d (.int .i64 0), .d (.int .i64 0), .d (.lit false), .d (.int .i64 0), .d (.int .i64 0), .d (.lit false), .d (.int .i64 0), .d (.int .i64 0), .d (.lit false), .d (.int .i64 0), .d (.int .i64 0), .d (.lit false), .d (.int .i64 0), .d (.int .i64 0), .d (.lit false), .d (.int .i64 0), .d (.int .i64 0), .d (.lit false), .d (.int .i64 0), .d (.int .i64 0), .d (.lit false), .d (.int .i64 0), .d (.int .i64 0), .d (.lit false), .d (.int .i64 0), .d (.int .i64 0), .d (.lit false), .d (.int .i64 0), .d (.int .i64 0), .d (.lit false), .d (.int .i64 0), .d (.int .i64 0), .d (.lit false), .d (.int .i64 0), .d (.int .i64 0), .d (.lit false), .d (.int .i64 0), .d (.int .i64 0), .d (.lit false), .d (.int .i64 0), .d (.int .i64 0), .d (.lit false), .d (.int .i64 0), .d (.int .i64 0), .d (.lit false)], [], some (.arr 16 (.pr (.int .i64) (.pr (.int .i64) .bool))), 384⟩
/-- slices.sortedHint -/
def t162 : TI := ⟨.int .i64, 1, false, [.d (.int .i64 0)], [], some (.int .i64), 8⟩
/-- uint32 -/
def t171 : TI := ⟨.int .u32, 1, false, [.d (.int .u32 0)], [], some (.int .u32), 4⟩
/-- uint64 -/
def t173 : TI := ⟨.int .u64, 1, false, [.d (.int .u64 0)], [], some (.int .u64), 8⟩
/-- slices.xorshift -/
def t174 : TI := ⟨.int .u64, 1, false, [.d (.int .u64 0)], [], some (.int .u64), 8⟩
/-- *int -/
def t178 : TI := ⟨.ptr 3, 1, false, [.raw (.pointer none)], [], some .adr, 8⟩
/-- *slices.xorshift -/
def t180 : TI := ⟨.ptr 174, 1, false, [.raw (.pointer none)], [], some .adr, 8⟩
/-- image.snap -/
def t199 : TI := ⟨.st, 2, true, [.d (.str []), .raw (.pointer none)], [(0, 1), (1, 1)], some (.pr .str .adr), 24⟩
def types : Tr := (.node (.node (.node (.node (.node (.node (.node .leaf 3 t3 .leaf) 4 t4 .leaf) 5 t5 (.node .leaf 9 t9 .leaf)) 21 t21 (.node (.node .leaf 23 t23 .leaf) 24 t24 (.node .leaf 26 t26 .leaf))) 28 t28 (.node (.node (.node .leaf 31 t31 .leaf) 36 t36 (.node .leaf 37 t37 .leaf)) 41 t41 (.node (.node .leaf 44 t44 .leaf) 49 t49 (.node .leaf 53 t53 .leaf)))) 57 t57 (.node (.node (.node (.node .leaf 60 t60 .leaf) 67 t67 (.node .leaf 70 t70 .leaf)) 72 t72 (.node (.node .leaf 73 t73 .leaf) 75 t75 (.node .leaf 76 t76 .leaf))) 77 t77 (.node (.node (.node .leaf 78 t78 .leaf) 81 t81 (.node .leaf 83 t83 .leaf)) 85 t85 (.node (.node .leaf 88 t88 .leaf) 90 t90 (.node .leaf 91 t91 .leaf))))) 94 t94 (.node (.node (.node (.node (.node .leaf 97 t97 .leaf) 98 t98 (.node .leaf 100 t100 .leaf)) 101 t101 (.node (.node .leaf 102 t102 .leaf) 103 t103 (.node .leaf 105 t105 .leaf))) 106 t106 (.node (.node (.node .leaf 108 t108 .leaf) 110 t110 (.node .leaf 115 t115 .leaf)) 117 t117 (.node (.node .leaf 129 t129 .leaf) 130 t130 (.node .leaf 132 t132 .leaf)))) 135 t135 (.node (.node (.node (.node .leaf 136 t136 .leaf) 138 t138 (.node .leaf 140 t140 .leaf)) 143 t143 (.node (.node .leaf 149 t149 .leaf) 150 t150 (.node .leaf 152 t152 .leaf))) 160 t160 (.node (.node (.node .leaf 162 t162 .leaf) 171 t171 (.node .leaf 173 t173 .leaf)) 174 t174 (.node (.node .leaf 178 t178 .leaf) 180 t180 (.node .leaf 199 t199 .leaf))))))
end tbl
set_option maxRecDepth 100000 in
theorem tblOK : TblOK Try.prog tbl.types := TblOK.of (by kernel_rfl)
theorem mixed : Try.prog.follows .mixedOrders = true := by kernel_rfl
end Go.Proofs.Ytmdhangeglaigaa
