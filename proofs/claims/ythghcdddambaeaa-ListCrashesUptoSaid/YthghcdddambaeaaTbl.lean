/-
  The types of this seat, as the generator of conditions wants them.
-/
import Derived.Test.YthghcdddambaeaaCode
import Derived.Test.YthghcdddambaeaaProg
namespace Go.Proofs.Ythghcdddambaeaa
open Go.RowKit
namespace tbl
/-- int -/
def t3 : TI := ⟨.int .i64, 1, false, [.d (.int .i64 0)], [], some (.int .i64), 8⟩
/-- bool -/
def t4 : TI := ⟨.bool, 1, false, [.d (.lit false)], [], some .bool, 1⟩
/-- uint8 -/
def t5 : TI := ⟨.int .u8, 1, false, [.d (.int .u8 0)], [], some .u8, 1⟩
/-- string -/
def t9 : TI := ⟨.str, 1, false, [.d (.str [])], [], some .str, 16⟩
/-- int32 -/
def t21 : TI := ⟨.int .i32, 1, false, [.d (.int .i32 0)], [], some (.int .i32), 4⟩
/-- []pentimentoref18.Op -/
def t22 : TI := ⟨.sl 38, 1, false, [.nils], [], some (.sl (.pr (.int .i64) (.pr (.int .i64) (.pr (.pr .str (.pr .str (.pr (.int .i64) (.pr (.int .i64) (.sl (.pr (.int .i64) .str)))))) (.pr .str (.pr (.int .i64) (.pr (.int .i64) (.pr .str (.pr .str (.pr (.sl (.pr .str (.sl (.int .i64)))) (.pr (.int .i64) (.pr (.int .i64) (.pr (.int .i64) (.pr (.sl .u8) (.sl (.int .i64)))))))))))))))), 24⟩
/-- *list.List -/
def t23 : TI := ⟨.ptr 107, 1, false, [.raw (.pointer none)], [], some .adr, 8⟩
/-- []pentimentoref17.Piece -/
def t27 : TI := ⟨.sl 109, 1, false, [.nils], [], some (.sl (.pr (.int .i64) .str)), 24⟩
/-- pentimentoref18.Backup -/
def t29 : TI := ⟨.st, 5, true, [.d (.str []), .d (.str []), .d (.int .i64 0), .d (.int .i64 0), .nils], [(0, 1), (1, 1), (2, 1), (3, 1), (4, 1)], some (.pr .str (.pr .str (.pr (.int .i64) (.pr (.int .i64) (.sl (.pr (.int .i64) .str)))))), 72⟩
/-- []pentimentoref04.Keep -/
def t30 : TI := ⟨.sl 75, 1, false, [.nils], [], some (.sl (.pr .str (.sl (.int .i64)))), 24⟩
/-- []uint8 -/
def t31 : TI := ⟨.sl 5, 1, false, [.nils], [], some (.sl .u8), 24⟩
/-- []int -/
def t32 : TI := ⟨.sl 3, 1, false, [.nils], [], some (.sl (.int .i64)), 24⟩
/-- pentimentoref03.Op -/
def t34 : TI := ⟨.st, 5, true, [.d (.int .i64 0), .d (.int .i64 0), .d (.int .i64 0), .nils, .nils], [(0, 1), (1, 1), (2, 1), (3, 1), (4, 1)], some (.pr (.int .i64) (.pr (.int .i64) (.pr (.int .i64) (.pr (.sl .u8) (.sl (.int .i64)))))), 72⟩
/-- pentimentoref04.Op -/
def t36 : TI := ⟨.st, 10, true, [.d (.int .i64 0), .d (.int .i64 0), .d (.str []), .d (.str []), .nils, .d (.int .i64 0), .d (.int .i64 0), .d (.int .i64 0), .nils, .nils], [(0, 1), (1, 1), (2, 1), (3, 1), (4, 1), (5, 5)], some (.pr (.int .i64) (.pr (.int .i64) (.pr .str (.pr .str (.pr (.sl (.pr .str (.sl (.int .i64)))) (.pr (.int .i64) (.pr (.int .i64) (.pr (.int .i64) (.pr (.sl .u8) (.sl (.int .i64))))))))))), 144⟩
/-- pentimentoref18.Op -/
def t38 : TI := ⟨.st, 18, true, [.d (.int .i64 0), .d (.int .i64 0), .d (.str []), .d (.str []), .d (.int .i64 0), .d (.int .i64 0), .nils, .d (.str []), .d (.int .i64 0), .d (.int .i64 0), .d (.str []), .d (.str []), .nils, .d (.int .i64 0), .d (.int .i64 0), .d (.int .i64 0), .nils, .nils], [(0, 1), (1, 1), (2, 5), (7, 1), (8, 10)], some (.pr (.int .i64) (.pr (.int .i64) (.pr (.pr .str (.pr .str (.pr (.int .i64) (.pr (.int .i64) (.sl (.pr (.int .i64) .str)))))) (.pr .str (.pr (.int .i64) (.pr (.int .i64) (.pr .str (.pr .str (.pr (.sl (.pr .str (.sl (.int .i64)))) (.pr (.int .i64) (.pr (.int .i64) (.pr (.int .i64) (.pr (.sl .u8) (.sl (.int .i64))))))))))))))), 248⟩
/-- api.Errno -/
def t39 : TI := ⟨.int .i64, 1, false, [.d (.int .i64 0)], [], some (.int .i64), 8⟩
/-- []push.Piece -/
def t41 : TI := ⟨.sl 111, 1, false, [.nils], [], some (.sl (.pr (.int .i64) (.sl .u8))), 24⟩
/-- list.Backup -/
def t43 : TI := ⟨.st, 5, true, [.d (.str []), .d (.str []), .d (.int .i64 0), .d (.int .i64 0), .nils], [(0, 1), (1, 1), (2, 1), (3, 1), (4, 1)], some (.pr .str (.pr .str (.pr (.int .i64) (.pr (.int .i64) (.sl (.pr (.int .i64) (.sl .u8))))))), 72⟩
/-- []pentimentoref18.Backup -/
def t49 : TI := ⟨.sl 29, 1, false, [.nils], [], some (.sl (.pr .str (.pr .str (.pr (.int .i64) (.pr (.int .i64) (.sl (.pr (.int .i64) .str))))))), 24⟩
/-- []string -/
def t57 : TI := ⟨.sl 9, 1, false, [.nils], [], some (.sl .str), 24⟩
/-- *files.Files -/
def t67 : TI := ⟨.ptr 137, 1, false, [.raw (.pointer none)], [], some .adr, 8⟩
/-- func string  bool -/
def t70 : TI := ⟨.other, 1, false, [.raw .nilFunc], [], some .fn, 8⟩
/-- *store.Store -/
def t71 : TI := ⟨.ptr 177, 1, false, [.raw (.pointer none)], [], some .adr, 8⟩
/-- pentimentoref04.Keep -/
def t75 : TI := ⟨.st, 2, true, [.d (.str []), .nils], [(0, 1), (1, 1)], some (.pr .str (.sl (.int .i64))), 40⟩
/-- *safe.Saver -/
def t77 : TI := ⟨.ptr 144, 1, false, [.raw (.pointer none)], [], some .adr, 8⟩
/-- []pentimentoref04.Op -/
def t86 : TI := ⟨.sl 36, 1, false, [.nils], [], some (.sl (.pr (.int .i64) (.pr (.int .i64) (.pr .str (.pr .str (.pr (.sl (.pr .str (.sl (.int .i64)))) (.pr (.int .i64) (.pr (.int .i64) (.pr (.int .i64) (.pr (.sl .u8) (.sl (.int .i64)))))))))))), 24⟩
/-- []pentimentoref04.File -/
def t93 : TI := ⟨.sl 168, 1, false, [.nils], [], some (.sl (.pr .str (.pr (.int .i64) (.pr (.int .i64) (.pr (.sl (.pr (.int .i64) .str)) (.int .i64)))))), 24⟩
/-- pentimentoref04.Files -/
def t95 : TI := ⟨.st, 2, true, [.d (.int .i64 0), .nils], [(0, 1), (1, 1)], some (.pr (.int .i64) (.sl (.pr .str (.pr (.int .i64) (.pr (.int .i64) (.pr (.sl (.pr (.int .i64) .str)) (.int .i64))))))), 32⟩
/-- []list.Backup -/
def t105 : TI := ⟨.sl 43, 1, false, [.nils], [], some (.sl (.pr .str (.pr .str (.pr (.int .i64) (.pr (.int .i64) (.sl (.pr (.int .i64) (.sl .u8)))))))), 24⟩
/-- list.List -/
def t107 : TI := ⟨.st, 1, true, [.nils], [(0, 1)], some (.sl (.pr .str (.pr .str (.pr (.int .i64) (.pr (.int .i64) (.sl (.pr (.int .i64) (.sl .u8)))))))), 24⟩
/-- pentimentoref17.Piece -/
def t109 : TI := ⟨.st, 2, true, [.d (.int .i64 0), .d (.str [])], [(0, 1), (1, 1)], some (.pr (.int .i64) .str), 24⟩
/-- push.Piece -/
def t111 : TI := ⟨.st, 2, true, [.d (.int .i64 0), .nils], [(0, 1), (1, 1)], some (.pr (.int .i64) (.sl .u8)), 32⟩
/-- func list.Backup  bool -/
def t117 : TI := ⟨.other, 1, false, [.raw .nilFunc], [], some .fn, 8⟩
/-- *octets.Reader -/
def t121 : TI := ⟨.ptr 186, 1, false, [.raw (.pointer none)], [], some .adr, 8⟩
/-- func   api.Errno -/
def t124 : TI := ⟨.other, 1, false, [.raw .nilFunc], [], some .fn, 8⟩
/-- pentimentoref01.Reader -/
def t126 : TI := ⟨.st, 2, true, [.d (.str []), .d (.int .i64 0)], [(0, 1), (1, 1)], some (.pr .str (.int .i64)), 24⟩
/-- map[string]*store.Store -/
def t135 : TI := ⟨.mp 9 71, 1, false, [.raw (.map none)], [], none, 8⟩
/-- files.Files -/
def t137 : TI := ⟨.st, 2, true, [.d (.int .i64 0), .raw (.map none)], [(0, 1), (1, 1)], none, 16⟩
/-- []func   api.Errno -/
def t142 : TI := ⟨.sl 124, 1, false, [.nils], [], some (.sl .fn), 24⟩
/-- safe.Saver -/
def t144 : TI := ⟨.st, 2, true, [.nils, .d (.int .i64 0)], [(0, 1), (1, 1)], some (.pr (.sl .fn) (.int .i64)), 32⟩
/-- func int  []uint8  -/
def t146 : TI := ⟨.other, 1, false, [.raw .nilFunc], [], some .fn, 8⟩
/-- []files.Keep -/
def t148 : TI := ⟨.sl 149, 1, false, [.nils], [], some (.sl (.pr .str (.sl (.int .i64)))), 24⟩
/-- files.Keep -/
def t149 : TI := ⟨.st, 2, true, [.d (.str []), .nils], [(0, 1), (1, 1)], some (.pr .str (.sl (.int .i64))), 40⟩
/-- func func string  bool  -/
def t155 : TI := ⟨.other, 1, false, [.raw .nilFunc], [], some .fn, 8⟩
/-- iter.Seq[string] -/
def t156 : TI := ⟨.other, 1, false, [.raw .nilFunc], [], some .fn, 8⟩
/-- []pentimentoref03.Write -/
def t164 : TI := ⟨.sl 224, 1, false, [.nils], [], some (.sl (.pr (.int .i64) .str)), 24⟩
/-- pentimentoref03.Store -/
def t166 : TI := ⟨.st, 4, true, [.d (.int .i64 0), .d (.int .i64 0), .nils, .d (.int .i64 0)], [(0, 1), (1, 1), (2, 1), (3, 1)], some (.pr (.int .i64) (.pr (.int .i64) (.pr (.sl (.pr (.int .i64) .str)) (.int .i64)))), 48⟩
/-- pentimentoref04.File -/
def t168 : TI := ⟨.st, 5, true, [.d (.str []), .d (.int .i64 0), .d (.int .i64 0), .nils, .d (.int .i64 0)], [(0, 1), (1, 4)], some (.pr .str (.pr (.int .i64) (.pr (.int .i64) (.pr (.sl (.pr (.int .i64) .str)) (.int .i64))))), 64⟩
/-- map[int]store.sector -/
def t174 : TI := ⟨.mp 3 183, 1, false, [.raw (.map none)], [], none, 8⟩
/-- []store.write -/
def t175 : TI := ⟨.sl 198, 1, false, [.nils], [], some (.sl (.pr (.int .i64) (.arr 16 .u8))), 24⟩
/-- store.Store -/
def t177 : TI := ⟨.st, 5, true, [.d (.int .i64 0), .d (.int .i64 0), .raw (.map none), .raw (.map none), .nils], [(0, 1), (1, 1), (2, 1), (3, 1), (4, 1)], none, 56⟩
/-- store.sector -/
def t183 : TI := ⟨.arr 16 5, 16, true, [.d (.int .u8 0), .d (.int .u8 0), .d (.int .u8 0), .d (.int .u8 0), .d (.int .u8 0), .d (.int .u8 0), .d (.int .u8 0), .d (.int .u8 0), .d (.int .u8 0), .d (.int .u8 0), .d (.int .u8 0), .d (.int .u8 0), .d (.int .u8 0), .d (.int .u8 0), .d (.int .u8 0), .d (.int .u8 0)], [], some (.arr 16 .u8), 16⟩
/-- octets.Reader -/
def t186 : TI := ⟨.st, 2, true, [.nils, .d (.int .i64 0)], [(0, 1), (1, 1)], some (.pr (.sl .u8) (.int .i64)), 32⟩
/-- func int  bool -/
def t188 : TI := ⟨.other, 1, false, [.raw .nilFunc], [], some .fn, 8⟩
/-- uint -/
def t189 : TI := ⟨.int .u64, 1, false, [.d (.int .u64 0)], [], some (.int .u64), 8⟩
/-- store.write -/
def t198 : TI := ⟨.st, 17, true, [.d (.int .i64 0), .d (.int .u8 0), .d (.int .u8 0), .d (.int .u8 0), .d (.int .u8 0), .d (.int .u8 0), .d (.int .u8 0), .d (.int .u8 0), .d (.int .u8 0), .d (.int .u8 0), .d (.int .u8 0), .d (.int .u8 0), .d (.int .u8 0), .d (.int .u8 0), .d (.int .u8 0), .d (.int .u8 0), .d (.int .u8 0)], [(0, 1), (1, 16)], some (.pr (.int .i64) (.arr 16 .u8)), 24⟩
/-- [][]uint8 -/
def t199 : TI := ⟨.sl 31, 1, false, [.nils], [], some (.sl (.sl .u8)), 24⟩
/-- func uint8   int  int  -/
def t200 : TI := ⟨.other, 1, false, [.raw .nilFunc], [], some .fn, 8⟩
/-- func files.Keep  bool -/
def t203 : TI := ⟨.other, 1, false, [.raw .nilFunc], [], some .fn, 8⟩
/-- func int  store.sector  bool -/
def t216 : TI := ⟨.other, 1, false, [.raw .nilFunc], [], some .fn, 8⟩
/-- func api.Errno  []uint8 -/
def t217 : TI := ⟨.other, 1, false, [.raw .nilFunc], [], some .fn, 8⟩
/-- pentimentoref03.Write -/
def t224 : TI := ⟨.st, 2, true, [.d (.int .i64 0), .d (.str [])], [(0, 1), (1, 1)], some (.pr (.int .i64) .str), 24⟩
/-- slices.sortedHint -/
def t229 : TI := ⟨.int .i64, 1, false, [.d (.int .i64 0)], [], some (.int .i64), 8⟩
/-- uint32 -/
def t238 : TI := ⟨.int .u32, 1, false, [.d (.int .u32 0)], [], some (.int .u32), 4⟩
/-- uint64 -/
def t240 : TI := ⟨.int .u64, 1, false, [.d (.int .u64 0)], [], some (.int .u64), 8⟩
/-- slices.xorshift -/
def t241 : TI := ⟨.int .u64, 1, false, [.d (.int .u64 0)], [], some (.int .u64), 8⟩
/-- *int -/
def t245 : TI := ⟨.ptr 3, 1, false, [.raw (.pointer none)], [], some .adr, 8⟩
/-- *slices.xorshift -/
def t247 : TI := ⟨.ptr 241, 1, false, [.raw (.pointer none)], [], some .adr, 8⟩
def types : Tr := (.node (.node (.node (.node (.node (.node (.node .leaf 3 t3 .leaf) 4 t4 .leaf) 5 t5 (.node .leaf 9 t9 .leaf)) 21 t21 (.node (.node .leaf 22 t22 .leaf) 23 t23 (.node .leaf 27 t27 .leaf))) 29 t29 (.node (.node (.node (.node .leaf 30 t30 .leaf) 31 t31 .leaf) 32 t32 (.node .leaf 34 t34 .leaf)) 36 t36 (.node (.node .leaf 38 t38 .leaf) 39 t39 (.node .leaf 41 t41 .leaf)))) 43 t43 (.node (.node (.node (.node (.node .leaf 49 t49 .leaf) 57 t57 .leaf) 67 t67 (.node .leaf 70 t70 .leaf)) 71 t71 (.node (.node .leaf 75 t75 .leaf) 77 t77 (.node .leaf 86 t86 .leaf))) 93 t93 (.node (.node (.node .leaf 95 t95 .leaf) 105 t105 (.node .leaf 107 t107 .leaf)) 109 t109 (.node (.node .leaf 111 t111 .leaf) 117 t117 (.node .leaf 121 t121 .leaf))))) 124 t124 (.node (.node (.node (.node (.node (.node .leaf 126 t126 .leaf) 135 t135 .leaf) 137 t137 (.node .leaf 142 t142 .leaf)) 144 t144 (.node (.node .leaf 146 t146 .leaf) 148 t148 (.node .leaf 149 t149 .leaf))) 155 t155 (.node (.node (.node .leaf 156 t156 .leaf) 164 t164 (.node .leaf 166 t166 .leaf)) 168 t168 (.node (.node .leaf 174 t174 .leaf) 175 t175 (.node .leaf 177 t177 .leaf)))) 183 t183 (.node (.node (.node (.node (.node .leaf 186 t186 .leaf) 188 t188 .leaf) 189 t189 (.node .leaf 198 t198 .leaf)) 199 t199 (.node (.node .leaf 200 t200 .leaf) 203 t203 (.node .leaf 216 t216 .leaf))) 217 t217 (.node (.node (.node .leaf 224 t224 .leaf) 229 t229 (.node .leaf 238 t238 .leaf)) 240 t240 (.node (.node .leaf 241 t241 .leaf) 245 t245 (.node .leaf 247 t247 .leaf))))))
end tbl
set_option maxRecDepth 100000 in
theorem tblOK : TblOK Try.prog tbl.types := TblOK.of (by kernel_rfl)
theorem mixed : Try.prog.follows .mixedOrders = true := by kernel_rfl
end Go.Proofs.Ythghcdddambaeaa
