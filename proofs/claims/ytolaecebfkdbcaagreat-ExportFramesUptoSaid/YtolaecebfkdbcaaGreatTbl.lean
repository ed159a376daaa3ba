/-
  The types of this seat, as the generator of conditions wants them.
-/
import Derived.Test.YtolaecebfkdbcaaGreatCode
import Derived.Test.YtolaecebfkdbcaaGreatProg
namespace Go.Proofs.YtolaecebfkdbcaaGreat
open Go.RowKit
namespace tbl
/-- int -/
def t3 : TI := ⟨.int .i64, 1, false, [.d (.int .i64 0)], [], some (.int .i64), 8⟩
/-- bool -/
def t4 : TI := ⟨.bool, 1, false, [.d (.lit false)], [], some .bool, 1⟩
/-- uint8 -/
def t5 : TI := ⟨.int .u8, 1, false, [.d (.int .u8 0)], [], some .u8, 1⟩
/-- string -/
def t9 : TI := ⟨.str, 1, false, [.d (.str [])], [], some .str, 16⟩
/-- int32 -/
def t21 : TI := ⟨.int .i32, 1, false, [.d (.int .i32 0)], [], some (.int .i32), 4⟩
/-- pentimentoref20.Request -/
def t23 : TI := ⟨.st, 5, true, [.d (.int .i64 0), .d (.int .i64 0), .d (.int .i64 0), .d (.int .i64 0), .d (.int .i64 0)], [(0, 1), (1, 1), (2, 1), (3, 1), (4, 1)], some (.pr (.int .i64) (.pr (.int .i64) (.pr (.int .i64) (.pr (.int .i64) (.int .i64))))), 40⟩
/-- api.Errno -/
def t24 : TI := ⟨.int .i64, 1, false, [.d (.int .i64 0)], [], some (.int .i64), 8⟩
/-- pentimentoref20.Reply -/
def t26 : TI := ⟨.st, 3, true, [.d (.int .i64 0), .d (.int .i64 0), .d (.str [])], [(0, 1), (1, 1), (2, 1)], some (.pr (.int .i64) (.pr (.int .i64) .str)), 32⟩
/-- []uint8 -/
def t27 : TI := ⟨.sl 5, 1, false, [.nils], [], some (.sl .u8), 24⟩
/-- export.Request -/
def t31 : TI := ⟨.st, 5, true, [.d (.int .i64 0), .d (.int .i64 0), .d (.int .i64 0), .d (.int .i64 0), .d (.int .i64 0)], [(0, 1), (1, 1), (2, 1), (3, 1), (4, 1)], some (.pr (.int .i64) (.pr (.int .i64) (.pr (.int .i64) (.pr (.int .i64) (.int .i64))))), 40⟩
/-- export.Reply -/
def t36 : TI := ⟨.st, 3, true, [.d (.int .i64 0), .d (.int .i64 0), .nils], [(0, 1), (1, 1), (2, 1)], some (.pr (.int .i64) (.pr (.int .i64) (.sl .u8))), 40⟩
/-- [][]uint8 -/
def t38 : TI := ⟨.sl 27, 1, false, [.nils], [], some (.sl (.sl .u8)), 24⟩
/-- []api.Extent -/
def t44 : TI := ⟨.sl 79, 1, false, [.nils], [], some (.sl (.pr (.int .i64) (.pr (.int .i64) (.int .i64)))), 24⟩
/-- []pentimentoref14.Op -/
def t51 : TI := ⟨.sl 61, 1, false, [.nils], [], some (.sl (.pr (.int .i64) (.pr (.int .i64) (.pr .str (.pr .str (.pr (.int .i64) (.pr (.int .i64) (.pr (.int .i64) (.pr (.sl .u8) .str))))))))), 24⟩
/-- *chain.Chain -/
def t52 : TI := ⟨.ptr 114, 1, false, [.raw (.pointer none)], [], some .adr, 8⟩
/-- *dir.Dir -/
def t55 : TI := ⟨.ptr 117, 1, false, [.raw (.pointer none)], [], some .adr, 8⟩
/-- pentimentoref12.Op -/
def t59 : TI := ⟨.st, 5, true, [.d (.int .i64 0), .d (.int .i64 0), .d (.int .i64 0), .nils, .d (.str [])], [(0, 1), (1, 1), (2, 1), (3, 1), (4, 1)], some (.pr (.int .i64) (.pr (.int .i64) (.pr (.int .i64) (.pr (.sl .u8) .str)))), 64⟩
/-- pentimentoref14.Op -/
def t61 : TI := ⟨.st, 9, true, [.d (.int .i64 0), .d (.int .i64 0), .d (.str []), .d (.str []), .d (.int .i64 0), .d (.int .i64 0), .d (.int .i64 0), .nils, .d (.str [])], [(0, 1), (1, 1), (2, 1), (3, 1), (4, 5)], some (.pr (.int .i64) (.pr (.int .i64) (.pr .str (.pr .str (.pr (.int .i64) (.pr (.int .i64) (.pr (.int .i64) (.pr (.sl .u8) .str)))))))), 112⟩
/-- *image.Image -/
def t63 : TI := ⟨.ptr 130, 1, false, [.raw (.pointer none)], [], some .adr, 8⟩
/-- uint -/
def t66 : TI := ⟨.int .u64, 1, false, [.d (.int .u64 0)], [], some (.int .u64), 8⟩
/-- *bits.Bits -/
def t67 : TI := ⟨.ptr 133, 1, false, [.raw (.pointer none)], [], some .adr, 8⟩
/-- []export.Reply -/
def t75 : TI := ⟨.sl 36, 1, false, [.nils], [], some (.sl (.pr (.int .i64) (.pr (.int .i64) (.sl .u8)))), 24⟩
/-- api.Extent -/
def t79 : TI := ⟨.st, 3, true, [.d (.int .i64 0), .d (.int .i64 0), .d (.int .i64 0)], [(0, 1), (1, 1), (2, 1)], some (.pr (.int .i64) (.pr (.int .i64) (.int .i64))), 24⟩
/-- []pentimentoref11.Op -/
def t82 : TI := ⟨.sl 86, 1, false, [.nils], [], some (.sl (.pr (.int .i64) (.pr .str (.pr .str (.pr (.int .i64) (.pr (.int .i64) (.pr (.int .i64) (.pr (.int .i64) .bool)))))))), 24⟩
/-- pentimentolaw20.Seat -/
def t84 : TI := ⟨.st, 2, true, [.nils, .nils], [(0, 1), (1, 1)], some (.pr (.sl (.pr (.int .i64) (.pr (.int .i64) (.pr .str (.pr .str (.pr (.int .i64) (.pr (.int .i64) (.pr (.int .i64) (.pr (.sl .u8) .str))))))))) (.sl (.pr (.int .i64) (.pr .str (.pr .str (.pr (.int .i64) (.pr (.int .i64) (.pr (.int .i64) (.pr (.int .i64) .bool))))))))), 48⟩
/-- pentimentoref11.Op -/
def t86 : TI := ⟨.st, 8, true, [.d (.int .i64 0), .d (.str []), .d (.str []), .d (.int .i64 0), .d (.int .i64 0), .d (.int .i64 0), .d (.int .i64 0), .d (.lit false)], [(0, 1), (1, 1), (2, 1), (3, 1), (4, 1), (5, 1), (6, 1), (7, 1)], some (.pr (.int .i64) (.pr .str (.pr .str (.pr (.int .i64) (.pr (.int .i64) (.pr (.int .i64) (.pr (.int .i64) .bool))))))), 80⟩
/-- export.field -/
def t94 : TI := ⟨.st, 2, true, [.d (.int .i64 0), .d (.int .i64 0)], [(0, 1), (1, 1)], some (.pr (.int .i64) (.int .i64)), 16⟩
/-- *octets.Reader -/
def t98 : TI := ⟨.ptr 153, 1, false, [.raw (.pointer none)], [], some .adr, 8⟩
/-- pentimentoref01.Reader -/
def t104 : TI := ⟨.st, 2, true, [.d (.str []), .d (.int .i64 0)], [(0, 1), (1, 1)], some (.pr .str (.int .i64)), 24⟩
/-- []pentimentoref20.Reply -/
def t107 : TI := ⟨.sl 26, 1, false, [.nils], [], some (.sl (.pr (.int .i64) (.pr (.int .i64) .str))), 24⟩
/-- map[string]*chain.disk -/
def t112 : TI := ⟨.mp 9 122, 1, false, [.raw (.map none)], [], none, 8⟩
/-- chain.Chain -/
def t114 : TI := ⟨.st, 3, true, [.d (.int .i64 0), .d (.int .i64 0), .raw (.map none)], [(0, 1), (1, 1), (2, 1)], none, 24⟩
/-- map[string]*dir.Entry -/
def t115 : TI := ⟨.mp 9 135, 1, false, [.raw (.map none)], [], none, 8⟩
/-- dir.Dir -/
def t117 : TI := ⟨.st, 1, true, [.raw (.map none)], [(0, 1)], none, 8⟩
/-- *chain.disk -/
def t122 : TI := ⟨.ptr 124, 1, false, [.raw (.pointer none)], [], some .adr, 8⟩
/-- chain.disk -/
def t124 : TI := ⟨.st, 2, true, [.raw (.pointer none), .d (.str [])], [(0, 1), (1, 1)], some (.pr .adr .str), 24⟩
/-- *table.Table -/
def t125 : TI := ⟨.ptr 170, 1, false, [.raw (.pointer none)], [], some .adr, 8⟩
/-- *counts.Counts -/
def t126 : TI := ⟨.ptr 190, 1, false, [.raw (.pointer none)], [], some .adr, 8⟩
/-- map[int][]uint8 -/
def t127 : TI := ⟨.mp 3 27, 1, false, [.raw (.map none)], [], none, 8⟩
/-- []image.snap -/
def t128 : TI := ⟨.sl 270, 1, false, [.nils], [], some (.sl (.pr .str .adr)), 24⟩
/-- image.Image -/
def t130 : TI := ⟨.st, 5, true, [.d (.int .i64 0), .raw (.pointer none), .raw (.pointer none), .raw (.map none), .nils], [(0, 1), (1, 1), (2, 1), (3, 1), (4, 1)], none, 56⟩
/-- map[int]int -/
def t131 : TI := ⟨.mp 3 3, 1, false, [.raw (.map none)], [], none, 8⟩
/-- bits.Bits -/
def t133 : TI := ⟨.st, 3, true, [.d (.int .i64 0), .d (.int .i64 0), .raw (.map none)], [(0, 1), (1, 1), (2, 1)], none, 24⟩
/-- func string  bool -/
def t134 : TI := ⟨.other, 1, false, [.raw .nilFunc], [], some .fn, 8⟩
/-- *dir.Entry -/
def t135 : TI := ⟨.ptr 138, 1, false, [.raw (.pointer none)], [], some .adr, 8⟩
/-- dir.Entry -/
def t138 : TI := ⟨.st, 4, true, [.d (.str []), .d (.lit false), .d (.lit false), .raw (.pointer none)], [(0, 1), (1, 1), (2, 1), (3, 1)], some (.pr .str (.pr .bool (.pr .bool .adr))), 32⟩
/-- export.server -/
def t143 : TI := ⟨.st, 3, true, [.raw (.pointer none), .d (.str []), .raw (.pointer none)], [(0, 1), (1, 1), (2, 1)], some (.pr .adr (.pr .str .adr)), 32⟩
/-- func int  api.Errno -/
def t147 : TI := ⟨.other, 1, false, [.raw .nilFunc], [], some .fn, 8⟩
/-- []string -/
def t148 : TI := ⟨.sl 9, 1, false, [.nils], [], some (.sl .str), 24⟩
/-- []export.field -/
def t150 : TI := ⟨.sl 94, 1, false, [.nils], [], some (.sl (.pr (.int .i64) (.int .i64))), 24⟩
/-- octets.Reader -/
def t153 : TI := ⟨.st, 2, true, [.nils, .d (.int .i64 0)], [(0, 1), (1, 1)], some (.pr (.sl .u8) (.int .i64)), 32⟩
/-- func int  []uint8 -/
def t164 : TI := ⟨.other, 1, false, [.raw .nilFunc], [], some .fn, 8⟩
/-- func *image.Image  func int  []uint8  api.Errno -/
def t166 : TI := ⟨.other, 1, false, [.raw .nilFunc], [], some .fn, 8⟩
/-- map[int]table.group -/
def t168 : TI := ⟨.mp 3 220, 1, false, [.raw (.map none)], [], none, 8⟩
/-- table.Table -/
def t170 : TI := ⟨.st, 2, true, [.d (.int .i64 0), .raw (.map none)], [(0, 1), (1, 1)], none, 16⟩
/-- func func image.piece  bool  -/
def t172 : TI := ⟨.other, 1, false, [.raw .nilFunc], [], some .fn, 8⟩
/-- image.piece -/
def t175 : TI := ⟨.st, 4, true, [.d (.int .i64 0), .d (.int .i64 0), .d (.int .i64 0), .d (.int .i64 0)], [(0, 1), (1, 1), (2, 1), (3, 1)], some (.pr (.int .i64) (.pr (.int .i64) (.pr (.int .i64) (.int .i64)))), 32⟩
/-- func int  -/
def t180 : TI := ⟨.other, 1, false, [.raw .nilFunc], [], some .fn, 8⟩
/-- func export.server  export.Request   []uint8  api.Errno  -/
def t181 : TI := ⟨.other, 1, false, [.raw .nilFunc], [], some .fn, 8⟩
/-- map[int]func export.server  export.Request   []uint8  api.Er -/
def t182 : TI := ⟨.mp 3 181, 1, false, [.raw (.map none)], [], none, 8⟩
/-- func *dir.Entry  -/
def t184 : TI := ⟨.other, 1, false, [.raw .nilFunc], [], some .fn, 8⟩
/-- []int -/
def t186 : TI := ⟨.sl 3, 1, false, [.nils], [], some (.sl (.int .i64)), 24⟩
/-- func int  int  bool -/
def t187 : TI := ⟨.other, 1, false, [.raw .nilFunc], [], some .fn, 8⟩
/-- func api.Errno  []uint8 -/
def t188 : TI := ⟨.other, 1, false, [.raw .nilFunc], [], some .fn, 8⟩
/-- counts.Counts -/
def t190 : TI := ⟨.st, 1, true, [.nils], [(0, 1)], some (.sl (.int .i64)), 24⟩
/-- func func string  bool  -/
def t193 : TI := ⟨.other, 1, false, [.raw .nilFunc], [], some .fn, 8⟩
/-- iter.Seq[string] -/
def t194 : TI := ⟨.other, 1, false, [.raw .nilFunc], [], some .fn, 8⟩
/-- func image.piece  bool -/
def t196 : TI := ⟨.other, 1, false, [.raw .nilFunc], [], some .fn, 8⟩
/-- slot.Slot -/
def t200 : TI := ⟨.st, 3, true, [.d (.int .i64 0), .d (.int .i64 0), .d (.lit false)], [(0, 1), (1, 1), (2, 1)], some (.pr (.int .i64) (.pr (.int .i64) .bool)), 24⟩
/-- func func int  int  bool  -/
def t209 : TI := ⟨.other, 1, false, [.raw .nilFunc], [], some .fn, 8⟩
/-- table.group -/
def t220 : TI := ⟨.arr 16 200, 48, true, [.d (.int .i64 0), .d (.int .i64 0), .d (.lit false), .d (.int .i64 0), .d (.int .i64 0), .d (.lit false), .d (.int .i64 0), .d (.int .i64 0), .d (.lit false), .d (.int .i64 0), .d (.int .i64 0), .d (.lit false), .d (.int .i64 0), .d (.int .i64 0), .d (.lit false), .d (.int .i64 0), .d (.int .i64 0), .d (.lit false), .d (.int .i64 0), .d (.int .i64 0), .d (.lit false), .d (.int .i64 0), .d (.int .i64 0), .d (.lit false), .d (.int .i64 0), .d (.int .i64 0), .d (.lit false), .d (.int .i64 0), .d (.int .i64 0), .d (.lit false), .d (.int .i64 0), .d (.int .i64 0), .d (.lit false), .d (.int .i64 0), .d (.int .i64 0), .d (.lit false), .d (.int .i64 0), .d (.int .i64 0), .d (.lit false), .d (.int .i64 0), .d (.int .i64 0), .d (.lit false), .d (.int .i64 0), .d (.int .i64 0), .d (.lit false), .d (.int .i64 0), .d (.int .i64 0), .d (.lit false)], [], some (.arr 16 (.pr (.int .i64) (.pr (.int .i64) .bool))), 384⟩
/-- slices.sortedHint -/
def t233 : TI := ⟨.int .i64, 1, false, [.d (.int .i64 0)], [], some (.int .i64), 8⟩
/-- uint32 -/
def t242 : TI := ⟨.int .u32, 1, false, [.d (.int .u32 0)], [], some (.int .u32), 4⟩
/-- uint64 -/
def t244 : TI := ⟨.int .u64, 1, false, [.d (.int .u64 0)], [], some (.int .u64), 8⟩
/-- slices.xorshift -/
def t246 : TI := ⟨.int .u64, 1, false, [.d (.int .u64 0)], [], some (.int .u64), 8⟩
/-- *int -/
def t250 : TI := ⟨.ptr 3, 1, false, [.raw (.pointer none)], [], some .adr, 8⟩
/-- *slices.xorshift -/
def t252 : TI := ⟨.ptr 246, 1, false, [.raw (.pointer none)], [], some .adr, 8⟩
/-- image.snap -/
def t270 : TI := ⟨.st, 2, true, [.d (.str []), .raw (.pointer none)], [(0, 1), (1, 1)], some (.pr .str .adr), 24⟩
def types : Tr := (.node (.node (.node (.node (.node (.node (.node .leaf 3 t3 .leaf) 4 t4 .leaf) 5 t5 (.node .leaf 9 t9 .leaf)) 21 t21 (.node (.node (.node .leaf 23 t23 .leaf) 24 t24 .leaf) 26 t26 (.node .leaf 27 t27 .leaf))) 31 t31 (.node (.node (.node (.node .leaf 36 t36 .leaf) 38 t38 .leaf) 44 t44 (.node .leaf 51 t51 .leaf)) 52 t52 (.node (.node (.node .leaf 55 t55 .leaf) 59 t59 .leaf) 61 t61 (.node .leaf 63 t63 .leaf)))) 66 t66 (.node (.node (.node (.node (.node .leaf 67 t67 .leaf) 75 t75 .leaf) 79 t79 (.node .leaf 82 t82 .leaf)) 84 t84 (.node (.node (.node .leaf 86 t86 .leaf) 94 t94 .leaf) 98 t98 (.node .leaf 104 t104 .leaf))) 107 t107 (.node (.node (.node (.node .leaf 112 t112 .leaf) 114 t114 .leaf) 115 t115 (.node .leaf 117 t117 .leaf)) 122 t122 (.node (.node (.node .leaf 124 t124 .leaf) 125 t125 .leaf) 126 t126 (.node .leaf 127 t127 .leaf))))) 128 t128 (.node (.node (.node (.node (.node (.node .leaf 130 t130 .leaf) 131 t131 .leaf) 133 t133 (.node .leaf 134 t134 .leaf)) 135 t135 (.node (.node (.node .leaf 138 t138 .leaf) 143 t143 .leaf) 147 t147 (.node .leaf 148 t148 .leaf))) 150 t150 (.node (.node (.node (.node .leaf 153 t153 .leaf) 164 t164 .leaf) 166 t166 (.node .leaf 168 t168 .leaf)) 170 t170 (.node (.node (.node .leaf 172 t172 .leaf) 175 t175 .leaf) 180 t180 (.node .leaf 181 t181 .leaf)))) 182 t182 (.node (.node (.node (.node (.node .leaf 184 t184 .leaf) 186 t186 .leaf) 187 t187 (.node .leaf 188 t188 .leaf)) 190 t190 (.node (.node (.node .leaf 193 t193 .leaf) 194 t194 .leaf) 196 t196 (.node .leaf 200 t200 .leaf))) 209 t209 (.node (.node (.node (.node .leaf 220 t220 .leaf) 233 t233 .leaf) 242 t242 (.node .leaf 244 t244 .leaf)) 246 t246 (.node (.node .leaf 250 t250 .leaf) 252 t252 (.node .leaf 270 t270 .leaf))))))
end tbl
set_option maxRecDepth 100000 in
theorem tblOK : TblOK Tryz.prog tbl.types := TblOK.of (by kernel_rfl)
theorem mixed : Tryz.prog.follows .mixedOrders = true := by kernel_rfl
end Go.Proofs.YtolaecebfkdbcaaGreat
