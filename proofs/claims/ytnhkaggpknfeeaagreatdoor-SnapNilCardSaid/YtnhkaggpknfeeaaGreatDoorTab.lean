/-
  THE TABLES OF THE TRANSLATION, as the evaluator wants them: types, functions. Printed by wip/tools/gen_tab.py.
-/
import Derived.Test.YtnhkaggpknfeeaaGreatDoorProg
import Derived.Test.YtnhkaggpknfeeaaGreatDoorEngG
import Derived.KernelRfl
namespace Go.Proofs.YtnhkaggpknfeeaaGreatDoor
open Go Go.E
set_option maxRecDepth 100000
def ty3 : TI := ⟨.int .i64, 1, 8, [.int .i64 0]⟩
def ty4 : TI := ⟨.bool, 1, 1, [.bool false]⟩
def ty5 : TI := ⟨.int .u8, 1, 1, [.int .u8 0]⟩
def ty9 : TI := ⟨.string, 1, 16, [.string ByteArray.empty]⟩
def ty21 : TI := ⟨.int .i32, 1, 4, [.int .i32 0]⟩
def ty22 : TI := ⟨.slice 3, 1, 24, [.slice none 0 0]⟩
def ty28 : TI := ⟨.slice 112, 1, 24, [.slice none 0 0]⟩
def ty112 : TI := ⟨.struct #[⟨"Kind", 3, 0, false, "", "", 0⟩, ⟨"In", 22, 1, false, "", "", 8⟩, ⟨"Width", 3, 2, false, "", "", 32⟩, ⟨"Size", 3, 3, false, "", "", 40⟩, ⟨"Step", 3, 4, false, "", "", 48⟩, ⟨"Gap", 3, 5, false, "", "", 56⟩, ⟨"Left", 3, 6, false, "", "", 64⟩, ⟨"Right", 3, 7, false, "", "", 72⟩, ⟨"Weights", 22, 8, false, "", "", 80⟩, ⟨"Bias", 22, 9, false, "", "", 104⟩, ⟨"Mult", 3, 10, false, "", "", 128⟩, ⟨"Shift", 3, 11, false, "", "", 136⟩, ⟨"Low", 3, 12, false, "", "", 144⟩, ⟨"High", 3, 13, false, "", "", 152⟩, ⟨"Post", 3, 14, false, "", "", 160⟩], 15, 168, [.int .i64 0, .slice none 0 0, .int .i64 0, .int .i64 0, .int .i64 0, .int .i64 0, .int .i64 0, .int .i64 0, .slice none 0 0, .slice none 0 0, .int .i64 0, .int .i64 0, .int .i64 0, .int .i64 0, .int .i64 0]⟩
def ty30 : TI := ⟨.struct #[⟨"Width", 3, 0, false, "", "", 0⟩, ⟨"Low", 3, 1, false, "", "", 8⟩, ⟨"High", 3, 2, false, "", "", 16⟩, ⟨"Nodes", 28, 3, false, "", "", 24⟩, ⟨"Out", 3, 4, false, "", "", 48⟩], 5, 56, [.int .i64 0, .int .i64 0, .int .i64 0, .slice none 0 0, .int .i64 0]⟩
def ty31 : TI := ⟨.slice 57, 1, 24, [.slice none 0 0]⟩
def ty57 : TI := ⟨.struct #[⟨"At", 3, 0, false, "", "", 0⟩, ⟨"Width", 3, 1, false, "", "", 8⟩, ⟨"Room", 3, 2, false, "", "", 16⟩], 3, 24, [.int .i64 0, .int .i64 0, .int .i64 0]⟩
def ty32 : TI := ⟨.int .u32, 1, 4, [.int .u32 0]⟩
def ty34 : TI := ⟨.struct #[⟨"Graph", 30, 0, false, "", "", 0⟩, ⟨"Order", 22, 5, false, "", "", 56⟩, ⟨"Rings", 31, 6, false, "", "", 80⟩, ⟨"Words", 3, 7, false, "", "", 104⟩, ⟨"Macs", 3, 8, false, "", "", 112⟩, ⟨"Hash", 32, 9, false, "", "", 120⟩], 10, 128, [.int .i64 0, .int .i64 0, .int .i64 0, .slice none 0 0, .int .i64 0, .slice none 0 0, .slice none 0 0, .int .i64 0, .int .i64 0, .int .u32 0]⟩
def ty37 : TI := ⟨.pointer 121, 1, 8, [.pointer none]⟩
def ty39 : TI := ⟨.int .i64, 1, 8, [.int .i64 0]⟩
def ty41 : TI := ⟨.struct #[⟨"Count", 3, 0, false, "", "", 0⟩, ⟨"Flushed", 4, 1, false, "", "", 8⟩, ⟨"Err", 39, 2, false, "", "", 16⟩, ⟨"Words", 22, 3, false, "", "", 24⟩], 4, 48, [.int .i64 0, .bool false, .int .i64 0, .slice none 0 0]⟩
def ty49 : TI := ⟨.slice 22, 1, 24, [.slice none 0 0]⟩
def ty70 : TI := ⟨.int .u64, 1, 8, [.int .u64 0]⟩
def ty95 : TI := ⟨.array 6 3, 6, 48, [.int .i64 0, .int .i64 0, .int .i64 0, .int .i64 0, .int .i64 0, .int .i64 0]⟩
def ty103 : TI := ⟨.slice 5, 1, 24, [.slice none 0 0]⟩
def ty115 : TI := ⟨.struct #[⟨"Plan", 34, 0, true, "", "", 0⟩], 10, 128, [.int .i64 0, .int .i64 0, .int .i64 0, .slice none 0 0, .int .i64 0, .slice none 0 0, .slice none 0 0, .int .i64 0, .int .i64 0, .int .u32 0]⟩
def ty116 : TI := ⟨.pointer 204, 1, 8, [.pointer none]⟩
def ty118 : TI := ⟨.slice 129, 1, 24, [.slice none 0 0]⟩
def ty129 : TI := ⟨.struct #[⟨"Node", 112, 0, true, "", "", 0⟩, ⟨"rate", 3, 15, false, "", "earshot/exec", 168⟩, ⟨"late", 3, 16, false, "", "earshot/exec", 176⟩, ⟨"cost", 3, 17, false, "", "earshot/exec", 184⟩], 18, 192, [.int .i64 0, .slice none 0 0, .int .i64 0, .int .i64 0, .int .i64 0, .int .i64 0, .int .i64 0, .int .i64 0, .slice none 0 0, .slice none 0 0, .int .i64 0, .int .i64 0, .int .i64 0, .int .i64 0, .int .i64 0, .int .i64 0, .int .i64 0, .int .i64 0]⟩
def ty119 : TI := ⟨.slice 124, 1, 24, [.slice none 0 0]⟩
def ty124 : TI := ⟨.pointer 218, 1, 8, [.pointer none]⟩
def ty121 : TI := ⟨.struct #[⟨"held", 115, 0, true, "", "earshot/exec", 0⟩, ⟨"most", 3, 10, false, "", "earshot/exec", 128⟩, ⟨"nodes", 118, 11, false, "", "earshot/exec", 136⟩, ⟨"arena", 116, 12, false, "", "earshot/exec", 160⟩, ⟨"loops", 119, 13, false, "", "earshot/exec", 168⟩, ⟨"flushed", 4, 14, false, "", "earshot/exec", 192⟩, ⟨"err", 39, 15, false, "", "earshot/exec", 200⟩, ⟨"spent", 3, 16, false, "", "earshot/exec", 208⟩], 17, 216, [.int .i64 0, .int .i64 0, .int .i64 0, .slice none 0 0, .int .i64 0, .slice none 0 0, .slice none 0 0, .int .i64 0, .int .i64 0, .int .u32 0, .int .i64 0, .slice none 0 0, .pointer none, .slice none 0 0, .bool false, .int .i64 0, .int .i64 0]⟩
def ty126 : TI := ⟨.pointer 220, 1, 8, [.pointer none]⟩
def ty139 : TI := ⟨.int .u64, 1, 8, [.int .u64 0]⟩
def ty143 : TI := ⟨.struct #[⟨"S", 9, 0, false, "", "", 0⟩, ⟨"At", 3, 1, false, "", "", 16⟩, ⟨"E", 39, 2, false, "", "", 24⟩], 3, 32, [.string ByteArray.empty, .int .i64 0, .int .i64 0]⟩
def ty144 : TI := ⟨.slice 239, 1, 24, [.slice none 0 0]⟩
def ty239 : TI := ⟨.struct #[⟨"Low", 3, 0, false, "", "", 0⟩, ⟨"High", 3, 1, false, "", "", 8⟩, ⟨"AccLow", 3, 2, false, "", "", 16⟩, ⟨"AccHigh", 3, 3, false, "", "", 24⟩], 4, 32, [.int .i64 0, .int .i64 0, .int .i64 0, .int .i64 0]⟩
def ty158 : TI := ⟨.struct #[⟨"S", 9, 0, false, "", "", 0⟩, ⟨"Bad", 4, 1, false, "", "", 16⟩], 2, 24, [.string ByteArray.empty, .bool false]⟩
def ty159 : TI := ⟨.func #[3] #[] false, 1, 8, [.nilFunc]⟩
def ty165 : TI := ⟨.struct #[⟨"R", 144, 0, false, "", "", 0⟩, ⟨"E", 39, 1, false, "", "", 24⟩], 2, 32, [.slice none 0 0, .int .i64 0]⟩
def ty172 : TI := ⟨.array 6 27, 6, 48, [.nilFunc, .nilFunc, .nilFunc, .nilFunc, .nilFunc, .nilFunc]⟩
def ty27 : TI := ⟨.func #[] #[4] false, 1, 8, [.nilFunc]⟩
def ty174 : TI := ⟨.struct #[⟨"Low", 22, 0, false, "", "", 0⟩, ⟨"High", 22, 1, false, "", "", 24⟩, ⟨"Rooms", 22, 2, false, "", "", 48⟩, ⟨"Macs", 3, 3, false, "", "", 72⟩], 4, 80, [.slice none 0 0, .slice none 0 0, .slice none 0 0, .int .i64 0]⟩
def ty178 : TI := ⟨.struct #[⟨"at", 3, 0, false, "", "earshot/tape", 0⟩], 1, 8, [.int .i64 0]⟩
def ty180 : TI := ⟨.struct #[⟨"place", 178, 0, true, "", "earshot/tape", 0⟩, ⟨"bytes", 103, 1, false, "", "earshot/tape", 8⟩], 2, 32, [.int .i64 0, .slice none 0 0]⟩
def ty189 : TI := ⟨.pointer 272, 1, 8, [.pointer none]⟩
def ty192 : TI := ⟨.struct #[⟨"Reader", 189, 0, true, "", "", 0⟩], 1, 8, [.pointer none]⟩
def ty204 : TI := ⟨.struct #[⟨"words", 22, 0, false, "", "earshot/arena", 0⟩, ⟨"err", 39, 1, false, "", "earshot/arena", 24⟩], 2, 32, [.slice none 0 0, .int .i64 0]⟩
def ty206 : TI := ⟨.struct #[⟨"order", 22, 0, false, "", "earshot/graph", 0⟩, ⟨"widths", 22, 1, false, "", "earshot/graph", 24⟩, ⟨"rates", 22, 2, false, "", "earshot/graph", 48⟩], 3, 72, [.slice none 0 0, .slice none 0 0, .slice none 0 0]⟩
def ty218 : TI := ⟨.struct #[⟨"Part", 126, 0, true, "", "", 0⟩, ⟨"width", 3, 1, false, "", "earshot/loop", 8⟩, ⟨"room", 3, 2, false, "", "earshot/loop", 16⟩, ⟨"count", 3, 3, false, "", "earshot/loop", 24⟩], 4, 32, [.pointer none, .int .i64 0, .int .i64 0, .int .i64 0]⟩
def ty220 : TI := ⟨.struct #[⟨"Arena", 116, 0, true, "", "", 0⟩, ⟨"words", 22, 1, false, "", "earshot/arena", 8⟩], 2, 32, [.pointer none, .slice none 0 0]⟩
def ty228 : TI := ⟨.slice 4, 1, 24, [.slice none 0 0]⟩
def ty230 : TI := ⟨.struct #[⟨"Order", 22, 0, false, "", "", 0⟩, ⟨"Widths", 22, 1, false, "", "", 24⟩, ⟨"Rates", 22, 2, false, "", "", 48⟩, ⟨"E", 39, 3, false, "", "", 72⟩], 4, 80, [.slice none 0 0, .slice none 0 0, .slice none 0 0, .int .i64 0]⟩
def ty233 : TI := ⟨.struct #[⟨"Reader", 189, 0, true, "", "", 0⟩], 1, 8, [.pointer none]⟩
def ty235 : TI := ⟨.pointer 3, 1, 8, [.pointer none]⟩
def ty242 : TI := ⟨.map 3 3, 1, 8, [.map none]⟩
def ty259 : TI := ⟨.struct #[⟨"At", 22, 0, false, "", "", 0⟩, ⟨"Size", 3, 1, false, "", "", 24⟩, ⟨"E", 39, 2, false, "", "", 32⟩], 3, 40, [.slice none 0 0, .int .i64 0, .int .i64 0]⟩
def ty267 : TI := ⟨.pointer 180, 1, 8, [.pointer none]⟩
def ty269 : TI := ⟨.slice 9, 1, 24, [.slice none 0 0]⟩
def ty272 : TI := ⟨.struct #[⟨"place", 178, 0, true, "", "earshot/tape", 0⟩, ⟨"s", 9, 1, false, "", "earshot/tape", 8⟩, ⟨"err", 39, 2, false, "", "earshot/tape", 24⟩], 3, 32, [.int .i64 0, .string ByteArray.empty, .int .i64 0]⟩
def ty288 : TI := ⟨.slice 235, 1, 24, [.slice none 0 0]⟩
def ty298 : TI := ⟨.struct #[⟨"Writer", 180, 0, true, "", "", 0⟩, ⟨"bad", 4, 2, false, "", "earshot/model", 32⟩], 3, 40, [.int .i64 0, .slice none 0 0, .bool false]⟩
def ty302 : TI := ⟨.array 2 22, 2, 48, [.slice none 0 0, .slice none 0 0]⟩
def ty303 : TI := ⟨.array 3 302, 6, 144, [.slice none 0 0, .slice none 0 0, .slice none 0 0, .slice none 0 0, .slice none 0 0, .slice none 0 0]⟩
def ty309 : TI := ⟨.struct #[⟨"N", 3, 0, false, "", "", 0⟩, ⟨"OK", 4, 1, false, "", "", 8⟩], 2, 16, [.int .i64 0, .bool false]⟩
def ty313 : TI := ⟨.pointer 315, 1, 8, [.pointer none]⟩
def ty315 : TI := ⟨.struct #[⟨"addr", 313, 0, false, "", "strings", 0⟩, ⟨"buf", 103, 1, false, "", "strings", 8⟩], 2, 32, [.pointer none, .slice none 0 0]⟩
def ty325 : TI := ⟨.array 13 3, 13, 104, [.int .i64 0, .int .i64 0, .int .i64 0, .int .i64 0, .int .i64 0, .int .i64 0, .int .i64 0, .int .i64 0, .int .i64 0, .int .i64 0, .int .i64 0, .int .i64 0, .int .i64 0]⟩
def ty326 : TI := ⟨.struct #[⟨"what", 3, 0, false, "", "earshot/kind", 0⟩, ⟨"some", 4, 1, false, "", "earshot/kind", 8⟩], 2, 16, [.int .i64 0, .bool false]⟩
def ty327 : TI := ⟨.array 6 326, 12, 96, [.int .i64 0, .bool false, .int .i64 0, .bool false, .int .i64 0, .bool false, .int .i64 0, .bool false, .int .i64 0, .bool false, .int .i64 0, .bool false]⟩
def ty339 : TI := ⟨.pointer 5, 1, 8, [.pointer none]⟩
def ty347 : TI := ⟨.unsafePointer, 1, 8, [.pointer none]⟩
def ty351 : TI := ⟨.int .i64, 1, 8, [.int .i64 0]⟩
def ty358 : TI := ⟨.int .u64, 1, 8, [.int .u64 0]⟩
theorem tOk_mk {t : TypeId} {ti : TI} {z : Value} (h : Tryz.prog.underlying t = some ti.desc) (g : (Tryz.prog.info? t).map (fun i => (i.size, i.bytes, i.zero)) = some (ti.size, ti.bytes, some z))
    (hz : z.cells.toList = ti.zero) (hc : ti.zero.all cellVal = true) (hl : ti.zero.length = ti.size) (hzz : z = zeroOf ti.desc ti.zero) : TOk Tryz.prog t ti := by
  cases hi : Tryz.prog.info? t with
  | none => rw [hi] at g; simp at g
  | some i => rw [hi] at g; simp at g; exact ⟨h, ⟨i, hi, hzz ▸ g.2.2⟩, i, z, hi, g.1, g.2.1, g.2.2, hz, hc, hl⟩
theorem ty3_ok : TOk Tryz.prog 3 ty3 := tOk_mk (z := .int .i64 0) (by kernel_rfl) (by kernel_rfl) rfl rfl rfl rfl
theorem ty4_ok : TOk Tryz.prog 4 ty4 := tOk_mk (z := .bool false) (by kernel_rfl) (by kernel_rfl) rfl rfl rfl rfl
theorem ty5_ok : TOk Tryz.prog 5 ty5 := tOk_mk (z := .int .u8 0) (by kernel_rfl) (by kernel_rfl) rfl rfl rfl rfl
theorem ty9_ok : TOk Tryz.prog 9 ty9 := tOk_mk (z := .string ByteArray.empty) (by kernel_rfl) (by kernel_rfl) rfl rfl rfl rfl
theorem ty21_ok : TOk Tryz.prog 21 ty21 := tOk_mk (z := .int .i32 0) (by kernel_rfl) (by kernel_rfl) rfl rfl rfl rfl
theorem ty22_ok : TOk Tryz.prog 22 ty22 := tOk_mk (z := .slice none 0 0) (by kernel_rfl) (by kernel_rfl) rfl rfl rfl rfl
theorem ty28_ok : TOk Tryz.prog 28 ty28 := tOk_mk (z := .slice none 0 0) (by kernel_rfl) (by kernel_rfl) rfl rfl rfl rfl
theorem ty112_ok : TOk Tryz.prog 112 ty112 := tOk_mk (z := .agg #[.int .i64 0, .slice none 0 0, .int .i64 0, .int .i64 0, .int .i64 0, .int .i64 0, .int .i64 0, .int .i64 0, .slice none 0 0, .slice none 0 0, .int .i64 0, .int .i64 0, .int .i64 0, .int .i64 0, .int .i64 0]) (by kernel_rfl) (by kernel_rfl) rfl rfl rfl rfl
theorem ty30_ok : TOk Tryz.prog 30 ty30 := tOk_mk (z := .agg #[.int .i64 0, .int .i64 0, .int .i64 0, .slice none 0 0, .int .i64 0]) (by kernel_rfl) (by kernel_rfl) rfl rfl rfl rfl
theorem ty31_ok : TOk Tryz.prog 31 ty31 := tOk_mk (z := .slice none 0 0) (by kernel_rfl) (by kernel_rfl) rfl rfl rfl rfl
theorem ty57_ok : TOk Tryz.prog 57 ty57 := tOk_mk (z := .agg #[.int .i64 0, .int .i64 0, .int .i64 0]) (by kernel_rfl) (by kernel_rfl) rfl rfl rfl rfl
theorem ty32_ok : TOk Tryz.prog 32 ty32 := tOk_mk (z := .int .u32 0) (by kernel_rfl) (by kernel_rfl) rfl rfl rfl rfl
theorem ty34_ok : TOk Tryz.prog 34 ty34 := tOk_mk (z := .agg #[.int .i64 0, .int .i64 0, .int .i64 0, .slice none 0 0, .int .i64 0, .slice none 0 0, .slice none 0 0, .int .i64 0, .int .i64 0, .int .u32 0]) (by kernel_rfl) (by kernel_rfl) rfl rfl rfl rfl
theorem ty37_ok : TOk Tryz.prog 37 ty37 := tOk_mk (z := .pointer none) (by kernel_rfl) (by kernel_rfl) rfl rfl rfl rfl
theorem ty39_ok : TOk Tryz.prog 39 ty39 := tOk_mk (z := .int .i64 0) (by kernel_rfl) (by kernel_rfl) rfl rfl rfl rfl
theorem ty41_ok : TOk Tryz.prog 41 ty41 := tOk_mk (z := .agg #[.int .i64 0, .bool false, .int .i64 0, .slice none 0 0]) (by kernel_rfl) (by kernel_rfl) rfl rfl rfl rfl
theorem ty49_ok : TOk Tryz.prog 49 ty49 := tOk_mk (z := .slice none 0 0) (by kernel_rfl) (by kernel_rfl) rfl rfl rfl rfl
theorem ty70_ok : TOk Tryz.prog 70 ty70 := tOk_mk (z := .int .u64 0) (by kernel_rfl) (by kernel_rfl) rfl rfl rfl rfl
theorem ty95_ok : TOk Tryz.prog 95 ty95 := tOk_mk (z := .agg #[.int .i64 0, .int .i64 0, .int .i64 0, .int .i64 0, .int .i64 0, .int .i64 0]) (by kernel_rfl) (by kernel_rfl) rfl rfl rfl rfl
theorem ty103_ok : TOk Tryz.prog 103 ty103 := tOk_mk (z := .slice none 0 0) (by kernel_rfl) (by kernel_rfl) rfl rfl rfl rfl
theorem ty115_ok : TOk Tryz.prog 115 ty115 := tOk_mk (z := .agg #[.int .i64 0, .int .i64 0, .int .i64 0, .slice none 0 0, .int .i64 0, .slice none 0 0, .slice none 0 0, .int .i64 0, .int .i64 0, .int .u32 0]) (by kernel_rfl) (by kernel_rfl) rfl rfl rfl rfl
theorem ty116_ok : TOk Tryz.prog 116 ty116 := tOk_mk (z := .pointer none) (by kernel_rfl) (by kernel_rfl) rfl rfl rfl rfl
theorem ty118_ok : TOk Tryz.prog 118 ty118 := tOk_mk (z := .slice none 0 0) (by kernel_rfl) (by kernel_rfl) rfl rfl rfl rfl
theorem ty129_ok : TOk Tryz.prog 129 ty129 := tOk_mk (z := .agg #[.int .i64 0, .slice none 0 0, .int .i64 0, .int .i64 0, .int .i64 0, .int .i64 0, .int .i64 0, .int .i64 0, .slice none 0 0, .slice none 0 0, .int .i64 0, .int .i64 0, .int .i64 0, .int .i64 0, .int .i64 0, .int .i64 0, .int .i64 0, .int .i64 0]) (by kernel_rfl) (by kernel_rfl) rfl rfl rfl rfl
theorem ty119_ok : TOk Tryz.prog 119 ty119 := tOk_mk (z := .slice none 0 0) (by kernel_rfl) (by kernel_rfl) rfl rfl rfl rfl
theorem ty124_ok : TOk Tryz.prog 124 ty124 := tOk_mk (z := .pointer none) (by kernel_rfl) (by kernel_rfl) rfl rfl rfl rfl
theorem ty121_ok : TOk Tryz.prog 121 ty121 := tOk_mk (z := .agg #[.int .i64 0, .int .i64 0, .int .i64 0, .slice none 0 0, .int .i64 0, .slice none 0 0, .slice none 0 0, .int .i64 0, .int .i64 0, .int .u32 0, .int .i64 0, .slice none 0 0, .pointer none, .slice none 0 0, .bool false, .int .i64 0, .int .i64 0]) (by kernel_rfl) (by kernel_rfl) rfl rfl rfl rfl
theorem ty126_ok : TOk Tryz.prog 126 ty126 := tOk_mk (z := .pointer none) (by kernel_rfl) (by kernel_rfl) rfl rfl rfl rfl
theorem ty139_ok : TOk Tryz.prog 139 ty139 := tOk_mk (z := .int .u64 0) (by kernel_rfl) (by kernel_rfl) rfl rfl rfl rfl
theorem ty143_ok : TOk Tryz.prog 143 ty143 := tOk_mk (z := .agg #[.string ByteArray.empty, .int .i64 0, .int .i64 0]) (by kernel_rfl) (by kernel_rfl) rfl rfl rfl rfl
theorem ty144_ok : TOk Tryz.prog 144 ty144 := tOk_mk (z := .slice none 0 0) (by kernel_rfl) (by kernel_rfl) rfl rfl rfl rfl
theorem ty239_ok : TOk Tryz.prog 239 ty239 := tOk_mk (z := .agg #[.int .i64 0, .int .i64 0, .int .i64 0, .int .i64 0]) (by kernel_rfl) (by kernel_rfl) rfl rfl rfl rfl
theorem ty158_ok : TOk Tryz.prog 158 ty158 := tOk_mk (z := .agg #[.string ByteArray.empty, .bool false]) (by kernel_rfl) (by kernel_rfl) rfl rfl rfl rfl
theorem ty159_ok : TOk Tryz.prog 159 ty159 := tOk_mk (z := .nilFunc) (by kernel_rfl) (by kernel_rfl) rfl rfl rfl rfl
theorem ty165_ok : TOk Tryz.prog 165 ty165 := tOk_mk (z := .agg #[.slice none 0 0, .int .i64 0]) (by kernel_rfl) (by kernel_rfl) rfl rfl rfl rfl
theorem ty172_ok : TOk Tryz.prog 172 ty172 := tOk_mk (z := .agg #[.nilFunc, .nilFunc, .nilFunc, .nilFunc, .nilFunc, .nilFunc]) (by kernel_rfl) (by kernel_rfl) rfl rfl rfl rfl
theorem ty27_ok : TOk Tryz.prog 27 ty27 := tOk_mk (z := .nilFunc) (by kernel_rfl) (by kernel_rfl) rfl rfl rfl rfl
theorem ty174_ok : TOk Tryz.prog 174 ty174 := tOk_mk (z := .agg #[.slice none 0 0, .slice none 0 0, .slice none 0 0, .int .i64 0]) (by kernel_rfl) (by kernel_rfl) rfl rfl rfl rfl
theorem ty178_ok : TOk Tryz.prog 178 ty178 := tOk_mk (z := .agg #[.int .i64 0]) (by kernel_rfl) (by kernel_rfl) rfl rfl rfl rfl
theorem ty180_ok : TOk Tryz.prog 180 ty180 := tOk_mk (z := .agg #[.int .i64 0, .slice none 0 0]) (by kernel_rfl) (by kernel_rfl) rfl rfl rfl rfl
theorem ty189_ok : TOk Tryz.prog 189 ty189 := tOk_mk (z := .pointer none) (by kernel_rfl) (by kernel_rfl) rfl rfl rfl rfl
theorem ty192_ok : TOk Tryz.prog 192 ty192 := tOk_mk (z := .agg #[.pointer none]) (by kernel_rfl) (by kernel_rfl) rfl rfl rfl rfl
theorem ty204_ok : TOk Tryz.prog 204 ty204 := tOk_mk (z := .agg #[.slice none 0 0, .int .i64 0]) (by kernel_rfl) (by kernel_rfl) rfl rfl rfl rfl
theorem ty206_ok : TOk Tryz.prog 206 ty206 := tOk_mk (z := .agg #[.slice none 0 0, .slice none 0 0, .slice none 0 0]) (by kernel_rfl) (by kernel_rfl) rfl rfl rfl rfl
theorem ty218_ok : TOk Tryz.prog 218 ty218 := tOk_mk (z := .agg #[.pointer none, .int .i64 0, .int .i64 0, .int .i64 0]) (by kernel_rfl) (by kernel_rfl) rfl rfl rfl rfl
theorem ty220_ok : TOk Tryz.prog 220 ty220 := tOk_mk (z := .agg #[.pointer none, .slice none 0 0]) (by kernel_rfl) (by kernel_rfl) rfl rfl rfl rfl
theorem ty228_ok : TOk Tryz.prog 228 ty228 := tOk_mk (z := .slice none 0 0) (by kernel_rfl) (by kernel_rfl) rfl rfl rfl rfl
theorem ty230_ok : TOk Tryz.prog 230 ty230 := tOk_mk (z := .agg #[.slice none 0 0, .slice none 0 0, .slice none 0 0, .int .i64 0]) (by kernel_rfl) (by kernel_rfl) rfl rfl rfl rfl
theorem ty233_ok : TOk Tryz.prog 233 ty233 := tOk_mk (z := .agg #[.pointer none]) (by kernel_rfl) (by kernel_rfl) rfl rfl rfl rfl
theorem ty235_ok : TOk Tryz.prog 235 ty235 := tOk_mk (z := .pointer none) (by kernel_rfl) (by kernel_rfl) rfl rfl rfl rfl
theorem ty242_ok : TOk Tryz.prog 242 ty242 := tOk_mk (z := .map none) (by kernel_rfl) (by kernel_rfl) rfl rfl rfl rfl
theorem ty259_ok : TOk Tryz.prog 259 ty259 := tOk_mk (z := .agg #[.slice none 0 0, .int .i64 0, .int .i64 0]) (by kernel_rfl) (by kernel_rfl) rfl rfl rfl rfl
theorem ty267_ok : TOk Tryz.prog 267 ty267 := tOk_mk (z := .pointer none) (by kernel_rfl) (by kernel_rfl) rfl rfl rfl rfl
theorem ty269_ok : TOk Tryz.prog 269 ty269 := tOk_mk (z := .slice none 0 0) (by kernel_rfl) (by kernel_rfl) rfl rfl rfl rfl
theorem ty272_ok : TOk Tryz.prog 272 ty272 := tOk_mk (z := .agg #[.int .i64 0, .string ByteArray.empty, .int .i64 0]) (by kernel_rfl) (by kernel_rfl) rfl rfl rfl rfl
theorem ty288_ok : TOk Tryz.prog 288 ty288 := tOk_mk (z := .slice none 0 0) (by kernel_rfl) (by kernel_rfl) rfl rfl rfl rfl
theorem ty298_ok : TOk Tryz.prog 298 ty298 := tOk_mk (z := .agg #[.int .i64 0, .slice none 0 0, .bool false]) (by kernel_rfl) (by kernel_rfl) rfl rfl rfl rfl
theorem ty302_ok : TOk Tryz.prog 302 ty302 := tOk_mk (z := .agg #[.slice none 0 0, .slice none 0 0]) (by kernel_rfl) (by kernel_rfl) rfl rfl rfl rfl
theorem ty303_ok : TOk Tryz.prog 303 ty303 := tOk_mk (z := .agg #[.slice none 0 0, .slice none 0 0, .slice none 0 0, .slice none 0 0, .slice none 0 0, .slice none 0 0]) (by kernel_rfl) (by kernel_rfl) rfl rfl rfl rfl
theorem ty309_ok : TOk Tryz.prog 309 ty309 := tOk_mk (z := .agg #[.int .i64 0, .bool false]) (by kernel_rfl) (by kernel_rfl) rfl rfl rfl rfl
theorem ty313_ok : TOk Tryz.prog 313 ty313 := tOk_mk (z := .pointer none) (by kernel_rfl) (by kernel_rfl) rfl rfl rfl rfl
theorem ty315_ok : TOk Tryz.prog 315 ty315 := tOk_mk (z := .agg #[.pointer none, .slice none 0 0]) (by kernel_rfl) (by kernel_rfl) rfl rfl rfl rfl
theorem ty325_ok : TOk Tryz.prog 325 ty325 := tOk_mk (z := .agg #[.int .i64 0, .int .i64 0, .int .i64 0, .int .i64 0, .int .i64 0, .int .i64 0, .int .i64 0, .int .i64 0, .int .i64 0, .int .i64 0, .int .i64 0, .int .i64 0, .int .i64 0]) (by kernel_rfl) (by kernel_rfl) rfl rfl rfl rfl
theorem ty326_ok : TOk Tryz.prog 326 ty326 := tOk_mk (z := .agg #[.int .i64 0, .bool false]) (by kernel_rfl) (by kernel_rfl) rfl rfl rfl rfl
theorem ty327_ok : TOk Tryz.prog 327 ty327 := tOk_mk (z := .agg #[.int .i64 0, .bool false, .int .i64 0, .bool false, .int .i64 0, .bool false, .int .i64 0, .bool false, .int .i64 0, .bool false, .int .i64 0, .bool false]) (by kernel_rfl) (by kernel_rfl) rfl rfl rfl rfl
theorem ty339_ok : TOk Tryz.prog 339 ty339 := tOk_mk (z := .pointer none) (by kernel_rfl) (by kernel_rfl) rfl rfl rfl rfl
theorem ty347_ok : TOk Tryz.prog 347 ty347 := tOk_mk (z := .pointer none) (by kernel_rfl) (by kernel_rfl) rfl rfl rfl rfl
theorem ty351_ok : TOk Tryz.prog 351 ty351 := tOk_mk (z := .int .i64 0) (by kernel_rfl) (by kernel_rfl) rfl rfl rfl rfl
theorem ty358_ok : TOk Tryz.prog 358 ty358 := tOk_mk (z := .int .u64 0) (by kernel_rfl) (by kernel_rfl) rfl rfl rfl rfl
/-- All that a trie holds. -/
def AllT {α : Type} (P : Nat → α → Prop) : Tr (Option α) → (Nat → Nat) → Prop
  | .e, _ => True
  | .n v l r, f => (match v with
    | none => True
    | some x => P (f 0) x) ∧ AllT P l (fun j => f (2 * j + 1)) ∧ AllT P r (fun j => f (2 * j + 2))
theorem AllT.out {α : Type} {P : Nat → α → Prop} : ∀ {t : Tr (Option α)} {f : Nat → Nat}, AllT P t f → ∀ i x, t.get none i = some x → P (f i) x
  | .e, f, _, i, x, h => by rw [Tr.get_e] at h; cases h
  | .n v l r, f, ⟨h1, h2, h3⟩, i, x, h => by
    rw [Tr.get_n] at h
    by_cases h0 : i = 0
    · subst h0
      rw [Nat.beq_refl] at h
      simp only [cond_true] at h
      subst h
      exact h1
    · rw [beq_f h0] at h
      simp only [cond_false] at h
      by_cases hp : i % 2 = 1
      · rw [beq_t hp] at h
        have := AllT.out h2 _ x h
        rwa [show 2 * ((i - 1) / 2) + 1 = i by omega] at this
      · rw [beq_f hp] at h
        have := AllT.out h3 _ x h
        rwa [show 2 * ((i - 1) / 2) + 2 = i by omega] at this
noncomputable def tyT : Tr (Option TI) := (.n (none) (.n (none) (.n (some ty3) (.n (none) (.n (none) (.n (some ty31) .e (.n (some ty95) (.n (some ty159) .e .e) (.n (none) (.n (some ty351) .e .e) .e))) (.n (none) (.n (none) (.n (some ty143) .e .e) .e) (.n (none) (.n (none) (.n (some ty303) .e .e) .e) (.n (some ty239) .e .e)))) (.n (none) (.n (some ty39) (.n (none) .e (.n (none) (.n (some ty327) .e .e) .e)) (.n (some ty103) .e .e)) (.n (none) .e (.n (some ty119) .e .e)))) (.n (none) (.n (none) (.n (none) (.n (none) (.n (none) (.n (some ty259) .e .e) .e) .e) .e) (.n (none) (.n (none) .e (.n (none) (.n (some ty339) .e .e) .e)) (.n (some ty115) .e .e))) (.n (some ty27) (.n (none) (.n (none) (.n (some ty139) (.n (some ty267) .e .e) .e) .e) (.n (none) .e (.n (some ty235) .e .e))) (.n (none) (.n (none) .e (.n (none) (.n (some ty347) .e .e) .e)) (.n (none) (.n (none) (.n (some ty315) .e .e) .e) .e))))) (.n (some ty5) (.n (some ty9) (.n (none) (.n (none) (.n (none) (.n (some ty129) .e .e) .e) .e) (.n (some ty49) .e .e)) (.n (none) (.n (some ty41) .e (.n (none) .e (.n (some ty233) .e .e))) (.n (some ty57) .e (.n (some ty121) (.n (none) (.n (some ty313) .e .e) .e) .e)))) (.n (none) (.n (some ty21) (.n (some ty37) (.n (none) .e (.n (none) (.n (some ty325) .e .e) .e)) (.n (none) (.n (some ty165) .e .e) .e)) (.n (none) .e (.n (none) (.n (none) (.n (some ty309) .e .e) .e) .e))) (.n (none) (.n (none) (.n (none) (.n (none) (.n (some ty269) .e .e) .e) .e) .e) (.n (none) .e (.n (none) (.n (some ty189) .e .e) .e)))))) (.n (none) (.n (some ty4) (.n (none) (.n (none) (.n (some ty32) (.n (none) .e (.n (some ty192) .e .e)) (.n (none) (.n (none) (.n (some ty288) .e .e) .e) .e)) (.n (none) (.n (none) (.n (some ty144) (.n (some ty272) .e .e) .e) .e) (.n (some ty112) .e .e))) .e) (.n (none) (.n (none) (.n (none) .e (.n (none) .e (.n (some ty228) .e .e))) (.n (none) .e (.n (some ty116) (.n (some ty180) .e .e) .e))) (.n (some ty28) (.n (none) (.n (none) .e (.n (some ty204) .e .e)) (.n (none) (.n (some ty172) .e .e) .e)) (.n (none) (.n (none) .e (.n (some ty220) .e .e)) (.n (some ty124) .e .e))))) (.n (none) (.n (none) (.n (none) (.n (some ty34) .e .e) (.n (none) .e (.n (none) (.n (some ty178) .e .e) (.n (some ty242) .e .e)))) (.n (none) (.n (none) .e (.n (none) (.n (none) (.n (some ty298) .e .e) .e) .e)) (.n (none) (.n (none) .e (.n (some ty218) .e .e)) .e))) (.n (none) (.n (some ty22) (.n (none) (.n (some ty70) .e (.n (none) (.n (some ty326) .e .e) .e)) (.n (none) .e (.n (some ty230) (.n (some ty358) .e .e) .e))) (.n (none) .e (.n (some ty118) .e .e))) (.n (some ty30) (.n (none) (.n (none) .e (.n (some ty206) .e .e)) (.n (none) (.n (some ty174) (.n (some ty302) .e .e) .e) .e)) (.n (none) (.n (none) (.n (some ty158) .e .e) .e) (.n (some ty126) .e .e)))))))
theorem tyT_ok : AllT (fun k ti => TOk Tryz.prog k ti) tyT (fun i => i) := ⟨trivial, ⟨trivial, ⟨ty3_ok, ⟨trivial, ⟨trivial, ⟨ty31_ok, trivial, ⟨ty95_ok, ⟨ty159_ok, trivial, trivial⟩, ⟨trivial, ⟨ty351_ok, trivial, trivial⟩, trivial⟩⟩⟩, ⟨trivial, ⟨trivial, ⟨ty143_ok, trivial, trivial⟩, trivial⟩, ⟨trivial, ⟨trivial, ⟨ty303_ok, trivial, trivial⟩, trivial⟩, ⟨ty239_ok, trivial, trivial⟩⟩⟩⟩, ⟨trivial, ⟨ty39_ok, ⟨trivial, trivial, ⟨trivial, ⟨ty327_ok, trivial, trivial⟩, trivial⟩⟩, ⟨ty103_ok, trivial, trivial⟩⟩, ⟨trivial, trivial, ⟨ty119_ok, trivial, trivial⟩⟩⟩⟩, ⟨trivial, ⟨trivial, ⟨trivial, ⟨trivial, ⟨trivial, ⟨ty259_ok, trivial, trivial⟩, trivial⟩, trivial⟩, trivial⟩, ⟨trivial, ⟨trivial, trivial, ⟨trivial, ⟨ty339_ok, trivial, trivial⟩, trivial⟩⟩, ⟨ty115_ok, trivial, trivial⟩⟩⟩, ⟨ty27_ok, ⟨trivial, ⟨trivial, ⟨ty139_ok, ⟨ty267_ok, trivial, trivial⟩, trivial⟩, trivial⟩, ⟨trivial, trivial, ⟨ty235_ok, trivial, trivial⟩⟩⟩, ⟨trivial, ⟨trivial, trivial, ⟨trivial, ⟨ty347_ok, trivial, trivial⟩, trivial⟩⟩, ⟨trivial, ⟨trivial, ⟨ty315_ok, trivial, trivial⟩, trivial⟩, trivial⟩⟩⟩⟩⟩, ⟨ty5_ok, ⟨ty9_ok, ⟨trivial, ⟨trivial, ⟨trivial, ⟨ty129_ok, trivial, trivial⟩, trivial⟩, trivial⟩, ⟨ty49_ok, trivial, trivial⟩⟩, ⟨trivial, ⟨ty41_ok, trivial, ⟨trivial, trivial, ⟨ty233_ok, trivial, trivial⟩⟩⟩, ⟨ty57_ok, trivial, ⟨ty121_ok, ⟨trivial, ⟨ty313_ok, trivial, trivial⟩, trivial⟩, trivial⟩⟩⟩⟩, ⟨trivial, ⟨ty21_ok, ⟨ty37_ok, ⟨trivial, trivial, ⟨trivial, ⟨ty325_ok, trivial, trivial⟩, trivial⟩⟩, ⟨trivial, ⟨ty165_ok, trivial, trivial⟩, trivial⟩⟩, ⟨trivial, trivial, ⟨trivial, ⟨trivial, ⟨ty309_ok, trivial, trivial⟩, trivial⟩, trivial⟩⟩⟩, ⟨trivial, ⟨trivial, ⟨trivial, ⟨trivial, ⟨ty269_ok, trivial, trivial⟩, trivial⟩, trivial⟩, trivial⟩, ⟨trivial, trivial, ⟨trivial, ⟨ty189_ok, trivial, trivial⟩, trivial⟩⟩⟩⟩⟩⟩, ⟨trivial, ⟨ty4_ok, ⟨trivial, ⟨trivial, ⟨ty32_ok, ⟨trivial, trivial, ⟨ty192_ok, trivial, trivial⟩⟩, ⟨trivial, ⟨trivial, ⟨ty288_ok, trivial, trivial⟩, trivial⟩, trivial⟩⟩, ⟨trivial, ⟨trivial, ⟨ty144_ok, ⟨ty272_ok, trivial, trivial⟩, trivial⟩, trivial⟩, ⟨ty112_ok, trivial, trivial⟩⟩⟩, trivial⟩, ⟨trivial, ⟨trivial, ⟨trivial, trivial, ⟨trivial, trivial, ⟨ty228_ok, trivial, trivial⟩⟩⟩, ⟨trivial, trivial, ⟨ty116_ok, ⟨ty180_ok, trivial, trivial⟩, trivial⟩⟩⟩, ⟨ty28_ok, ⟨trivial, ⟨trivial, trivial, ⟨ty204_ok, trivial, trivial⟩⟩, ⟨trivial, ⟨ty172_ok, trivial, trivial⟩, trivial⟩⟩, ⟨trivial, ⟨trivial, trivial, ⟨ty220_ok, trivial, trivial⟩⟩, ⟨ty124_ok, trivial, trivial⟩⟩⟩⟩⟩, ⟨trivial, ⟨trivial, ⟨trivial, ⟨ty34_ok, trivial, trivial⟩, ⟨trivial, trivial, ⟨trivial, ⟨ty178_ok, trivial, trivial⟩, ⟨ty242_ok, trivial, trivial⟩⟩⟩⟩, ⟨trivial, ⟨trivial, trivial, ⟨trivial, ⟨trivial, ⟨ty298_ok, trivial, trivial⟩, trivial⟩, trivial⟩⟩, ⟨trivial, ⟨trivial, trivial, ⟨ty218_ok, trivial, trivial⟩⟩, trivial⟩⟩⟩, ⟨trivial, ⟨ty22_ok, ⟨trivial, ⟨ty70_ok, trivial, ⟨trivial, ⟨ty326_ok, trivial, trivial⟩, trivial⟩⟩, ⟨trivial, trivial, ⟨ty230_ok, ⟨ty358_ok, trivial, trivial⟩, trivial⟩⟩⟩, ⟨trivial, trivial, ⟨ty118_ok, trivial, trivial⟩⟩⟩, ⟨ty30_ok, ⟨trivial, ⟨trivial, trivial, ⟨ty206_ok, trivial, trivial⟩⟩, ⟨trivial, ⟨ty174_ok, ⟨ty302_ok, trivial, trivial⟩, trivial⟩, trivial⟩⟩, ⟨trivial, ⟨trivial, ⟨ty158_ok, trivial, trivial⟩, trivial⟩, ⟨ty126_ok, trivial, trivial⟩⟩⟩⟩⟩⟩⟩
noncomputable def bodyOk (T : Tr (Option Pre)) (fn : Func) : Bool := match fn.body with
  | some c => drawsOk T c
  | none => true
theorem bodyOk.out {T : Tr (Option Pre)} {fn : Func} (h : bodyOk T fn = true) : ∀ c, fn.body = some c → drawsOk T c = true := fun c hc => by
  unfold bodyOk at h; rw [hc] at h; exact h
noncomputable def pre8 : Tr (Option Pre) := .e
theorem pre8_ok : bodyOk pre8 Tryz.f8 = true := by kernel_rfl
noncomputable def pre11 : Tr (Option Pre) := .e
theorem pre11_ok : bodyOk pre11 Tryz.f11 = true := by kernel_rfl
noncomputable def pre17 : Tr (Option Pre) := .e
theorem pre17_ok : bodyOk pre17 Tryz.f17 = true := by kernel_rfl
noncomputable def pre19 : Tr (Option Pre) := (.n (none) (.n (none) (.n (some (.sil 0 (.sil 3 (.sil 4 (.sil 5 (.eff 1 [5] (.sil 2 (.eff 6 [] (.sil 7 (.eff 8 [0] (.sil 9 .fin))))))))))) .e .e) (.n (none) (.n (some (.sil 0 (.sil 1 (.sil 2 (.sil 3 (.sil 4 (.sil 5 (.sil 6 (.sil 7 (.sil 8 (.sil 9 (.sil 10 (.sil 11 (.sil 12 (.sil 13 (.sil 14 (.sil 15 (.sil 17 (.sil 18 (.eff 16 [4, 18] (.eff 19 [4] (.eff 20 [4, 12, 14] (.eff 21 [12, 14] (.sil 22 (.sil 23 (.eff 24 [] .fin)))))))))))))))))))))))))) .e .e) (.n (some (.sil 0 (.sil 1 (.sil 2 (.sil 3 (.sil 4 (.sil 5 (.sil 6 (.sil 7 (.sil 8 (.sil 9 (.eff 10 [5] (.sil 11 (.eff 12 [] .fin)))))))))))))) .e .e))) (.n (none) (.n (some (.sil 0 (.sil 1 (.sil 3 (.sil 4 (.eff 2 [4] (.eff 5 [] (.sil 6 (.sil 7 .fin))))))))) .e .e) (.n (none) (.n (some (.sil 0 (.sil 1 (.sil 2 (.sil 3 (.sil 4 (.sil 5 (.sil 6 (.sil 7 (.sil 8 (.eff 9 [3, 7] (.eff 10 [] .fin)))))))))))) .e .e) (.n (some (.sil 0 (.sil 1 (.sil 2 (.sil 3 (.sil 4 (.sil 5 (.eff 6 [4] (.eff 7 [] (.sil 8 (.sil 9 (.eff 10 [] .fin)))))))))))) .e .e))))
theorem pre19_ok : bodyOk pre19 Tryz.f19 = true := by kernel_rfl
noncomputable def pre21 : Tr (Option Pre) := (.n (none) (.n (some (.sil 0 (.sil 1 (.sil 2 (.sil 3 (.sil 4 (.sil 5 (.sil 6 (.sil 7 (.sil 8 (.sil 9 (.sil 10 (.sil 11 (.sil 12 (.sil 13 (.sil 14 (.sil 15 .fin))))))))))))))))) (.n (none) (.n (none) (.n (some (.sil 0 (.sil 1 (.sil 2 (.sil 3 (.sil 4 (.sil 5 (.sil 6 (.sil 7 (.sil 8 (.sil 11 (.eff 9 [] (.sil 10 .fin))))))))))))) .e .e) .e) .e) .e) (.n (none) (.n (none) .e (.n (none) (.n (some (.sil 0 (.sil 1 (.sil 2 (.sil 3 (.sil 4 (.sil 5 (.sil 6 (.sil 7 (.sil 8 (.eff 9 [6] (.sil 10 (.sil 11 (.eff 12 [] (.sil 13 (.sil 14 (.eff 15 [] .fin))))))))))))))))) .e .e) .e)) (.n (none) (.n (some (.sil 0 (.sil 1 (.sil 2 (.sil 3 (.sil 4 (.sil 5 (.eff 6 [] (.sil 7 .fin))))))))) .e .e) .e)))
theorem pre21_ok : bodyOk pre21 Tryz.f21 = true := by kernel_rfl
noncomputable def pre22 : Tr (Option Pre) := .e
theorem pre22_ok : bodyOk pre22 Tryz.f22 = true := by kernel_rfl
noncomputable def pre23 : Tr (Option Pre) := .e
theorem pre23_ok : bodyOk pre23 Tryz.f23 = true := by kernel_rfl
noncomputable def pre24 : Tr (Option Pre) := .e
theorem pre24_ok : bodyOk pre24 Tryz.f24 = true := by kernel_rfl
noncomputable def pre25 : Tr (Option Pre) := .e
theorem pre25_ok : bodyOk pre25 Tryz.f25 = true := by kernel_rfl
noncomputable def pre26 : Tr (Option Pre) := (.n (none) .e (.n (none) .e (.n (some (.sil 0 (.sil 1 (.sil 2 (.sil 3 (.sil 4 (.sil 5 (.sil 6 (.sil 7 (.sil 8 .fin)))))))))) .e .e)))
theorem pre26_ok : bodyOk pre26 Tryz.f26 = true := by kernel_rfl
noncomputable def pre27 : Tr (Option Pre) := (.n (none) (.n (none) (.n (some (.sil 0 (.sil 2 (.sil 3 (.sil 4 (.sil 5 (.sil 6 (.sil 7 (.sil 8 (.sil 9 (.sil 10 (.sil 11 (.sil 12 (.sil 13 (.eff 1 [5, 9, 13] (.eff 14 [5, 9] (.sil 15 (.eff 16 [] .fin)))))))))))))))))) .e .e) .e) .e)
theorem pre27_ok : bodyOk pre27 Tryz.f27 = true := by kernel_rfl
noncomputable def pre28 : Tr (Option Pre) := .e
theorem pre28_ok : bodyOk pre28 Tryz.f28 = true := by kernel_rfl
noncomputable def pre29 : Tr (Option Pre) := (.n (none) .e (.n (none) .e (.n (none) (.n (some (.sil 0 (.sil 2 (.sil 3 (.sil 4 (.sil 5 (.eff 1 [2, 5] (.sil 6 (.sil 7 .fin))))))))) .e .e) (.n (some (.sil 0 (.sil 1 (.eff 2 [0] (.eff 3 [] (.sil 4 (.eff 5 [] .fin))))))) .e .e))))
theorem pre29_ok : bodyOk pre29 Tryz.f29 = true := by kernel_rfl
noncomputable def pre32 : Tr (Option Pre) := .e
theorem pre32_ok : bodyOk pre32 Tryz.f32 = true := by kernel_rfl
noncomputable def pre36 : Tr (Option Pre) := (.n (none) (.n (none) (.n (none) .e (.n (some (.sil 0 (.sil 1 (.sil 2 (.eff 3 [1] (.eff 4 [1] (.eff 5 [] (.sil 6 (.eff 7 [] .fin))))))))) .e .e)) .e) .e)
theorem pre36_ok : bodyOk pre36 Tryz.f36 = true := by kernel_rfl
noncomputable def pre37 : Tr (Option Pre) := (.n (none) (.n (none) .e (.n (none) (.n (none) .e (.n (some (.sil 0 (.sil 1 (.sil 3 (.sil 4 (.sil 5 (.sil 7 (.eff 2 [0, 5, 7] (.eff 6 [0, 7] (.eff 8 [0] (.sil 9 (.eff 10 [] (.sil 11 .fin))))))))))))) .e .e)) .e)) .e)
theorem pre37_ok : bodyOk pre37 Tryz.f37 = true := by kernel_rfl
noncomputable def pre39 : Tr (Option Pre) := (.n (none) (.n (none) (.n (none) .e (.n (some (.sil 0 (.sil 1 (.sil 2 (.sil 3 (.sil 4 (.sil 5 (.sil 6 (.sil 7 (.sil 8 (.sil 9 (.sil 10 (.sil 11 (.sil 12 (.sil 13 (.sil 14 .fin)))))))))))))))) .e .e)) .e) (.n (none) .e (.n (some (.sil 0 (.sil 1 (.sil 2 (.sil 3 (.sil 4 (.sil 5 (.sil 6 (.sil 7 (.sil 8 (.sil 9 (.sil 10 .fin)))))))))))) .e .e)))
theorem pre39_ok : bodyOk pre39 Tryz.f39 = true := by kernel_rfl
noncomputable def pre42 : Tr (Option Pre) := .e
theorem pre42_ok : bodyOk pre42 Tryz.f42 = true := by kernel_rfl
noncomputable def pre43 : Tr (Option Pre) := (.n (none) .e (.n (none) (.n (none) (.n (some (.sil 0 (.sil 1 (.sil 2 (.sil 3 (.sil 4 (.sil 5 (.sil 6 (.sil 7 (.sil 8 (.sil 9 (.sil 10 .fin)))))))))))) .e .e) .e) .e))
theorem pre43_ok : bodyOk pre43 Tryz.f43 = true := by kernel_rfl
noncomputable def pre45 : Tr (Option Pre) := (.n (none) (.n (none) (.n (none) (.n (some (.sil 0 (.sil 1 (.sil 2 (.sil 3 (.sil 4 (.sil 5 (.sil 6 (.eff 7 [0, 5] (.eff 8 [0] (.sil 9 .fin))))))))))) .e .e) .e) .e) (.n (none) .e (.n (some (.sil 0 (.sil 1 (.sil 2 (.sil 3 (.eff 4 [1] (.sil 5 (.sil 6 (.eff 7 [] .fin))))))))) .e .e)))
theorem pre45_ok : bodyOk pre45 Tryz.f45 = true := by kernel_rfl
noncomputable def pre46 : Tr (Option Pre) := .e
theorem pre46_ok : bodyOk pre46 Tryz.f46 = true := by kernel_rfl
noncomputable def pre47 : Tr (Option Pre) := .e
theorem pre47_ok : bodyOk pre47 Tryz.f47 = true := by kernel_rfl
noncomputable def pre49 : Tr (Option Pre) := (.n (none) .e (.n (none) .e (.n (some (.sil 0 (.sil 1 (.sil 2 (.eff 3 [2] (.sil 4 .fin)))))) .e .e)))
theorem pre49_ok : bodyOk pre49 Tryz.f49 = true := by kernel_rfl
noncomputable def pre50 : Tr (Option Pre) := .e
theorem pre50_ok : bodyOk pre50 Tryz.f50 = true := by kernel_rfl
noncomputable def pre53 : Tr (Option Pre) := .e
theorem pre53_ok : bodyOk pre53 Tryz.f53 = true := by kernel_rfl
noncomputable def pre54 : Tr (Option Pre) := .e
theorem pre54_ok : bodyOk pre54 Tryz.f54 = true := by kernel_rfl
noncomputable def pre55 : Tr (Option Pre) := .e
theorem pre55_ok : bodyOk pre55 Tryz.f55 = true := by kernel_rfl
noncomputable def pre64 : Tr (Option Pre) := (.n (none) (.n (some (.sil 0 (.sil 1 (.sil 3 (.sil 4 (.eff 2 [4] (.sil 6 (.eff 5 [] (.eff 7 [] (.sil 8 (.eff 9 [] .fin))))))))))) (.n (none) (.n (some (.sil 0 (.sil 1 (.sil 2 (.sil 3 (.sil 4 (.sil 5 (.sil 6 (.sil 8 (.sil 9 (.sil 10 (.sil 11 (.sil 13 (.sil 14 (.sil 15 (.sil 16 (.eff 7 [11, 16] (.eff 12 [16] (.eff 17 [] (.sil 18 (.sil 19 (.eff 20 [] (.sil 21 (.sil 22 (.eff 23 [] (.sil 24 (.sil 25 (.eff 26 [] .fin)))))))))))))))))))))))))))) .e .e) .e) .e) .e)
theorem pre64_ok : bodyOk pre64 Tryz.f64 = true := by kernel_rfl
noncomputable def pre65 : Tr (Option Pre) := .e
theorem pre65_ok : bodyOk pre65 Tryz.f65 = true := by kernel_rfl
noncomputable def pre66 : Tr (Option Pre) := .e
theorem pre66_ok : bodyOk pre66 Tryz.f66 = true := by kernel_rfl
noncomputable def pre67 : Tr (Option Pre) := .e
theorem pre67_ok : bodyOk pre67 Tryz.f67 = true := by kernel_rfl
noncomputable def pre68 : Tr (Option Pre) := (.n (none) (.n (none) (.n (none) .e (.n (some (.sil 0 (.sil 1 (.sil 2 (.sil 3 (.sil 4 (.sil 7 (.sil 8 (.sil 9 (.eff 5 [0] (.eff 6 [0] (.sil 10 (.sil 11 (.eff 12 [] .fin)))))))))))))) .e .e)) (.n (none) (.n (some (.sil 0 (.sil 1 (.sil 2 (.sil 3 (.sil 4 (.sil 5 (.sil 6 (.sil 7 .fin))))))))) .e .e) (.n (some (.sil 0 (.sil 1 (.eff 2 [1] (.eff 3 [] .fin))))) .e .e))) (.n (none) (.n (some (.sil 0 (.sil 1 (.sil 3 (.sil 4 (.join (.alt none (.eff 2 [3] (.alt none (.eff 5 [0] (.eff 6 [3] .fin)) (.eff 6 [3] (.eff 5 [0] .fin)))) (.eff 5 [0] (.eff 2 [3] (.eff 6 [3] .fin)))) (.eff 7 [] .fin))))))) .e (.n (some (.sil 0 (.sil 1 (.sil 2 (.sil 3 (.sil 4 (.sil 7 (.sil 8 (.sil 11 (.eff 5 [0, 8] (.eff 6 [0, 8] (.eff 9 [0] (.sil 10 (.sil 12 (.sil 13 (.sil 14 (.sil 15 (.eff 16 [] .fin)))))))))))))))))) .e .e)) .e))
theorem pre68_ok : bodyOk pre68 Tryz.f68 = true := by kernel_rfl
noncomputable def pre69 : Tr (Option Pre) := .e
theorem pre69_ok : bodyOk pre69 Tryz.f69 = true := by kernel_rfl
noncomputable def pre70 : Tr (Option Pre) := .e
theorem pre70_ok : bodyOk pre70 Tryz.f70 = true := by kernel_rfl
noncomputable def pre71 : Tr (Option Pre) := .e
theorem pre71_ok : bodyOk pre71 Tryz.f71 = true := by kernel_rfl
noncomputable def pre72 : Tr (Option Pre) := .e
theorem pre72_ok : bodyOk pre72 Tryz.f72 = true := by kernel_rfl
noncomputable def pre73 : Tr (Option Pre) := .e
theorem pre73_ok : bodyOk pre73 Tryz.f73 = true := by kernel_rfl
noncomputable def pre74 : Tr (Option Pre) := .e
theorem pre74_ok : bodyOk pre74 Tryz.f74 = true := by kernel_rfl
noncomputable def pre75 : Tr (Option Pre) := .e
theorem pre75_ok : bodyOk pre75 Tryz.f75 = true := by kernel_rfl
noncomputable def pre76 : Tr (Option Pre) := .e
theorem pre76_ok : bodyOk pre76 Tryz.f76 = true := by kernel_rfl
noncomputable def pre77 : Tr (Option Pre) := .e
theorem pre77_ok : bodyOk pre77 Tryz.f77 = true := by kernel_rfl
noncomputable def pre78 : Tr (Option Pre) := .e
theorem pre78_ok : bodyOk pre78 Tryz.f78 = true := by kernel_rfl
noncomputable def pre79 : Tr (Option Pre) := .e
theorem pre79_ok : bodyOk pre79 Tryz.f79 = true := by kernel_rfl
noncomputable def pre80 : Tr (Option Pre) := .e
theorem pre80_ok : bodyOk pre80 Tryz.f80 = true := by kernel_rfl
noncomputable def pre81 : Tr (Option Pre) := .e
theorem pre81_ok : bodyOk pre81 Tryz.f81 = true := by kernel_rfl
noncomputable def pre82 : Tr (Option Pre) := (.n (none) .e (.n (none) .e (.n (none) .e (.n (some (.sil 0 (.sil 1 (.sil 2 (.sil 3 (.sil 4 (.sil 5 (.sil 6 (.sil 7 (.sil 8 (.sil 10 (.sil 12 (.eff 9 [3] (.sil 11 (.eff 13 [] .fin))))))))))))))) .e .e))))
theorem pre82_ok : bodyOk pre82 Tryz.f82 = true := by kernel_rfl
noncomputable def pre83 : Tr (Option Pre) := .e
theorem pre83_ok : bodyOk pre83 Tryz.f83 = true := by kernel_rfl
noncomputable def pre85 : Tr (Option Pre) := .e
theorem pre85_ok : bodyOk pre85 Tryz.f85 = true := by kernel_rfl
noncomputable def pre86 : Tr (Option Pre) := (.n (none) .e (.n (none) (.n (none) (.n (some (.sil 0 (.sil 1 (.sil 2 (.sil 3 (.sil 4 (.sil 5 (.sil 6 (.sil 7 (.sil 8 (.sil 9 (.sil 10 (.sil 11 (.sil 12 (.sil 13 (.sil 14 (.sil 15 .fin))))))))))))))))) .e .e) .e) .e))
theorem pre86_ok : bodyOk pre86 Tryz.f86 = true := by kernel_rfl
noncomputable def pre87 : Tr (Option Pre) := .e
theorem pre87_ok : bodyOk pre87 Tryz.f87 = true := by kernel_rfl
noncomputable def pre88 : Tr (Option Pre) := (.n (none) .e (.n (none) .e (.n (some (.sil 0 (.sil 1 (.sil 2 (.eff 3 [1] (.sil 4 (.eff 5 [1] (.eff 6 [] (.sil 7 (.eff 8 [] .fin)))))))))) .e .e)))
theorem pre88_ok : bodyOk pre88 Tryz.f88 = true := by kernel_rfl
noncomputable def pre89 : Tr (Option Pre) := (.n (none) (.n (some (.sil 0 (.sil 1 (.sil 2 (.sil 3 (.sil 4 (.sil 5 (.sil 6 (.sil 7 (.sil 8 (.sil 9 (.sil 10 .fin)))))))))))) .e .e) .e)
theorem pre89_ok : bodyOk pre89 Tryz.f89 = true := by kernel_rfl
noncomputable def pre90 : Tr (Option Pre) := (.n (none) (.n (none) (.n (none) (.n (some (.sil 0 (.sil 1 (.sil 3 (.sil 4 (.eff 2 [4] (.eff 5 [] (.sil 6 (.eff 7 [] (.sil 8 (.eff 9 [] .fin))))))))))) .e .e) .e) .e) (.n (none) .e (.n (none) (.n (some (.sil 0 (.sil 1 (.sil 2 (.eff 3 [1] (.eff 4 [1] (.eff 5 [] (.sil 6 (.eff 7 [] .fin))))))))) .e .e) .e)))
theorem pre90_ok : bodyOk pre90 Tryz.f90 = true := by kernel_rfl
noncomputable def pre91 : Tr (Option Pre) := (.n (none) (.n (none) .e (.n (none) (.n (none) (.n (some (.sil 0 (.sil 1 (.sil 2 (.sil 3 (.sil 4 (.sil 5 (.sil 6 (.sil 7 (.sil 8 (.sil 9 (.sil 10 (.eff 11 [5] (.sil 12 (.eff 13 [] .fin))))))))))))))) .e .e) .e) .e)) .e)
theorem pre91_ok : bodyOk pre91 Tryz.f91 = true := by kernel_rfl
noncomputable def pre92 : Tr (Option Pre) := .e
theorem pre92_ok : bodyOk pre92 Tryz.f92 = true := by kernel_rfl
noncomputable def pre93 : Tr (Option Pre) := (.n (none) .e (.n (none) (.n (none) (.n (none) (.n (some (.sil 0 (.sil 1 (.sil 2 (.sil 3 (.sil 4 (.sil 5 (.sil 6 (.sil 7 (.sil 8 (.sil 9 (.sil 10 (.sil 11 (.sil 12 (.sil 13 (.sil 14 (.sil 15 (.sil 16 (.eff 17 [0, 2, 5, 12] (.sil 18 (.sil 19 (.eff 20 [] .fin)))))))))))))))))))))) .e .e) .e) .e) .e))
theorem pre93_ok : bodyOk pre93 Tryz.f93 = true := by kernel_rfl
noncomputable def pre94 : Tr (Option Pre) := .e
theorem pre94_ok : bodyOk pre94 Tryz.f94 = true := by kernel_rfl
noncomputable def pre95 : Tr (Option Pre) := .e
theorem pre95_ok : bodyOk pre95 Tryz.f95 = true := by kernel_rfl
noncomputable def pre96 : Tr (Option Pre) := (.n (none) (.n (none) .e (.n (some (.sil 0 (.sil 1 (.sil 2 (.sil 3 (.sil 4 (.sil 5 (.sil 6 (.sil 7 (.sil 8 (.eff 9 [0, 4] (.sil 10 (.eff 11 [] .fin))))))))))))) .e .e)) .e)
theorem pre96_ok : bodyOk pre96 Tryz.f96 = true := by kernel_rfl
noncomputable def pre97 : Tr (Option Pre) := .e
theorem pre97_ok : bodyOk pre97 Tryz.f97 = true := by kernel_rfl
noncomputable def pre99 : Tr (Option Pre) := .e
theorem pre99_ok : bodyOk pre99 Tryz.f99 = true := by kernel_rfl
noncomputable def pre100 : Tr (Option Pre) := .e
theorem pre100_ok : bodyOk pre100 Tryz.f100 = true := by kernel_rfl
noncomputable def pre101 : Tr (Option Pre) := .e
theorem pre101_ok : bodyOk pre101 Tryz.f101 = true := by kernel_rfl
noncomputable def pre102 : Tr (Option Pre) := (.n (none) .e (.n (none) .e (.n (some (.sil 0 (.sil 1 (.sil 2 (.sil 3 (.sil 4 (.sil 5 (.sil 6 (.sil 7 (.sil 8 (.sil 9 (.eff 10 [] (.sil 11 .fin))))))))))))) .e .e)))
theorem pre102_ok : bodyOk pre102 Tryz.f102 = true := by kernel_rfl
noncomputable def pre103 : Tr (Option Pre) := .e
theorem pre103_ok : bodyOk pre103 Tryz.f103 = true := by kernel_rfl
noncomputable def pre104 : Tr (Option Pre) := (.n (none) .e (.n (none) (.n (some (.sil 0 (.sil 1 (.sil 2 (.sil 3 (.sil 4 (.sil 5 (.sil 6 (.sil 7 (.sil 8 (.sil 9 (.sil 10 (.sil 12 (.sil 13 (.sil 14 (.sil 15 (.eff 11 [15] (.sil 16 (.sil 17 .fin))))))))))))))))))) .e .e) .e))
theorem pre104_ok : bodyOk pre104 Tryz.f104 = true := by kernel_rfl
noncomputable def pre105 : Tr (Option Pre) := (.n (none) (.n (some (.sil 0 (.sil 1 (.sil 2 (.sil 3 (.sil 4 (.sil 5 (.sil 6 (.sil 7 (.sil 8 (.sil 9 (.sil 10 (.sil 11 (.sil 12 (.sil 13 (.sil 14 (.sil 15 (.sil 16 (.sil 17 (.eff 18 [3, 6, 8, 10] (.eff 19 [3, 6, 8, 14] (.eff 20 [3, 6, 14] (.eff 21 [14, 17] .fin))))))))))))))))))))))) .e .e) (.n (some (.sil 0 (.sil 1 (.sil 2 (.sil 3 (.sil 4 (.sil 5 (.sil 6 (.sil 7 (.sil 8 (.eff 9 [] .fin))))))))))) .e .e))
theorem pre105_ok : bodyOk pre105 Tryz.f105 = true := by kernel_rfl
noncomputable def pre106 : Tr (Option Pre) := .e
theorem pre106_ok : bodyOk pre106 Tryz.f106 = true := by kernel_rfl
noncomputable def pre107 : Tr (Option Pre) := .e
theorem pre107_ok : bodyOk pre107 Tryz.f107 = true := by kernel_rfl
noncomputable def pre108 : Tr (Option Pre) := (.n (none) (.n (none) (.n (none) (.n (none) (.n (some (.sil 0 (.sil 1 (.sil 2 (.sil 3 (.sil 4 (.sil 5 (.sil 6 (.sil 7 (.sil 8 (.sil 9 (.join (.alt none (.eff 10 [5] (.eff 11 [0, 3, 5, 7, 9] .fin)) (.eff 11 [0, 3, 5, 7, 9] (.eff 10 [5] .fin))) (.eff 12 [] .fin))))))))))))) .e .e) .e) .e) (.n (none) (.n (some (.sil 0 (.sil 1 (.sil 2 (.sil 3 (.sil 4 (.sil 5 (.sil 6 (.sil 7 (.sil 8 (.sil 9 (.eff 10 [1, 3, 6, 9] (.eff 11 [] .fin))))))))))))) .e .e) .e)) (.n (none) .e (.n (none) (.n (none) (.n (some (.sil 0 (.sil 1 (.sil 2 (.sil 3 (.sil 4 (.sil 5 (.sil 6 (.sil 7 (.eff 8 [] .fin)))))))))) .e .e) .e) .e)))
theorem pre108_ok : bodyOk pre108 Tryz.f108 = true := by kernel_rfl
noncomputable def pre109 : Tr (Option Pre) := (.n (none) (.n (none) (.n (none) (.n (none) (.n (some (.sil 0 (.sil 1 (.sil 2 (.sil 3 (.sil 4 (.sil 5 (.sil 6 (.sil 7 (.sil 8 (.sil 9 (.sil 10 (.sil 11 (.sil 12 (.sil 13 (.sil 14 (.sil 15 (.sil 16 (.sil 17 (.eff 18 [1, 3, 8, 13] (.eff 19 [3, 8, 13] (.sil 20 (.eff 21 [] .fin))))))))))))))))))))))) .e .e) .e) (.n (some (.sil 0 (.sil 1 (.sil 2 (.eff 3 [2] (.sil 4 .fin)))))) .e .e)) .e) (.n (none) (.n (none) (.n (some (.sil 0 (.sil 1 (.sil 2 (.sil 3 (.sil 4 (.sil 5 (.sil 6 (.sil 7 (.sil 8 (.sil 9 (.sil 10 (.sil 11 (.eff 12 [2, 7] (.eff 13 [2, 7] (.sil 14 .fin)))))))))))))))) .e .e) .e) .e))
theorem pre109_ok : bodyOk pre109 Tryz.f109 = true := by kernel_rfl
noncomputable def pre110 : Tr (Option Pre) := .e
theorem pre110_ok : bodyOk pre110 Tryz.f110 = true := by kernel_rfl
noncomputable def pre111 : Tr (Option Pre) := .e
theorem pre111_ok : bodyOk pre111 Tryz.f111 = true := by kernel_rfl
noncomputable def pre112 : Tr (Option Pre) := .e
theorem pre112_ok : bodyOk pre112 Tryz.f112 = true := by kernel_rfl
noncomputable def pre113 : Tr (Option Pre) := .e
theorem pre113_ok : bodyOk pre113 Tryz.f113 = true := by kernel_rfl
noncomputable def pre114 : Tr (Option Pre) := .e
theorem pre114_ok : bodyOk pre114 Tryz.f114 = true := by kernel_rfl
noncomputable def pre115 : Tr (Option Pre) := .e
theorem pre115_ok : bodyOk pre115 Tryz.f115 = true := by kernel_rfl
noncomputable def pre116 : Tr (Option Pre) := .e
theorem pre116_ok : bodyOk pre116 Tryz.f116 = true := by kernel_rfl
noncomputable def pre117 : Tr (Option Pre) := (.n (none) (.n (some (.sil 0 (.sil 2 (.eff 1 [2] (.eff 3 [] (.sil 4 (.sil 5 .fin))))))) (.n (none) (.n (some (.sil 0 (.sil 1 (.sil 2 (.sil 3 (.sil 4 (.sil 5 (.sil 6 (.sil 7 (.sil 8 (.sil 9 (.sil 10 (.sil 11 (.sil 12 (.sil 13 (.sil 14 (.sil 15 .fin))))))))))))))))) .e .e) .e) .e) .e)
theorem pre117_ok : bodyOk pre117 Tryz.f117 = true := by kernel_rfl
noncomputable def pre118 : Tr (Option Pre) := .e
theorem pre118_ok : bodyOk pre118 Tryz.f118 = true := by kernel_rfl
noncomputable def pre119 : Tr (Option Pre) := .e
theorem pre119_ok : bodyOk pre119 Tryz.f119 = true := by kernel_rfl
noncomputable def pre120 : Tr (Option Pre) := (.n (none) (.n (some (.sil 0 (.sil 1 (.sil 2 (.sil 3 (.eff 4 [1] (.sil 5 (.sil 6 (.sil 7 (.sil 8 (.sil 9 (.sil 10 (.eff 11 [8] (.sil 12 (.sil 13 (.sil 14 .fin)))))))))))))))) .e .e) .e)
theorem pre120_ok : bodyOk pre120 Tryz.f120 = true := by kernel_rfl
noncomputable def pre123 : Tr (Option Pre) := (.n (none) (.n (none) (.n (none) (.n (none) (.n (some (.sil 0 (.sil 1 (.sil 2 (.sil 3 (.sil 4 (.sil 5 (.sil 6 (.sil 9 (.sil 10 (.eff 7 [1, 10] (.eff 8 [1, 10] (.eff 11 [1] (.sil 12 (.sil 13 (.sil 14 (.eff 15 [] .fin))))))))))))))))) .e .e) .e) .e) (.n (some (.sil 0 (.sil 1 (.sil 3 (.sil 4 (.sil 6 (.sil 7 (.join (.alt (some [24, 27, 30, 31, 5, 27, 24, 30, 31, 5]) (.eff 2 [] (.alt (some [27, 30, 31, 5, 30, 27, 31, 5]) (.eff 5 [] (.alt (some [30, 31, 5, 5, 30, 31]) (.eff 8 [] (.sil 9 (.eff 10 [] .fin))) (.eff 10 [] (.eff 8 [] (.sil 9 .fin))))) (.alt (some [30, 27, 31, 5, 5, 27, 30, 31]) (.eff 8 [] (.alt (some [27, 31, 5, 5, 27, 31]) (.eff 5 [] (.sil 9 (.eff 10 [] .fin))) (.eff 10 [] (.eff 5 [] (.sil 9 .fin))))) (.eff 10 [] (.alt (some [27, 30, 31, 30, 27, 31]) (.eff 5 [] (.eff 8 [] (.sil 9 .fin))) (.eff 8 [] (.eff 5 [] (.sil 9 .fin)))))))) (.alt (some [27, 24, 30, 31, 5, 30, 24, 27, 31, 5]) (.eff 5 [] (.alt (some [24, 30, 31, 5, 30, 24, 31, 5]) (.eff 2 [] (.alt (some [30, 31, 5, 5, 30, 31]) (.eff 8 [] (.sil 9 (.eff 10 [] .fin))) (.eff 10 [] (.eff 8 [] (.sil 9 .fin))))) (.alt (some [30, 24, 31, 5, 5, 24, 30, 31]) (.eff 8 [] (.alt (some [24, 31, 5, 5, 24, 31]) (.eff 2 [] (.sil 9 (.eff 10 [] .fin))) (.eff 10 [] (.eff 2 [] (.sil 9 .fin))))) (.eff 10 [] (.alt (some [24, 30, 31, 30, 24, 31]) (.eff 2 [] (.eff 8 [] (.sil 9 .fin))) (.eff 8 [] (.eff 2 [] (.sil 9 .fin)))))))) (.alt (some [30, 24, 27, 31, 5, 5, 24, 27, 30, 31]) (.eff 8 [] (.alt (some [24, 27, 31, 5, 27, 24, 31, 5]) (.eff 2 [] (.alt (some [27, 31, 5, 5, 27, 31]) (.eff 5 [] (.sil 9 (.eff 10 [] .fin))) (.eff 10 [] (.eff 5 [] (.sil 9 .fin))))) (.alt (some [27, 24, 31, 5, 5, 24, 27, 31]) (.eff 5 [] (.alt (some [24, 31, 5, 5, 24, 31]) (.eff 2 [] (.sil 9 (.eff 10 [] .fin))) (.eff 10 [] (.eff 2 [] (.sil 9 .fin))))) (.eff 10 [] (.alt (some [24, 27, 31, 27, 24, 31]) (.eff 2 [] (.eff 5 [] (.sil 9 .fin))) (.eff 5 [] (.eff 2 [] (.sil 9 .fin)))))))) (.eff 10 [] (.alt (some [24, 27, 30, 31, 27, 24, 30, 31]) (.eff 2 [] (.alt (some [27, 30, 31, 30, 27, 31]) (.eff 5 [] (.eff 8 [] (.sil 9 .fin))) (.eff 8 [] (.eff 5 [] (.sil 9 .fin))))) (.alt (some [27, 24, 30, 31, 30, 24, 27, 31]) (.eff 5 [] (.alt (some [24, 30, 31, 30, 24, 31]) (.eff 2 [] (.eff 8 [] (.sil 9 .fin))) (.eff 8 [] (.eff 2 [] (.sil 9 .fin))))) (.eff 8 [] (.alt (some [24, 27, 31, 27, 24, 31]) (.eff 2 [] (.eff 5 [] (.sil 9 .fin))) (.eff 5 [] (.eff 2 [] (.sil 9 .fin))))))))))) (.eff 11 [] .fin))))))))) (.n (none) (.n (some (.sil 0 (.sil 1 (.sil 2 (.sil 3 (.sil 4 (.sil 5 (.sil 6 (.sil 7 (.sil 8 (.sil 9 (.sil 10 (.eff 11 [1, 6] (.sil 12 (.sil 13 (.eff 14 [] .fin)))))))))))))))) .e .e) (.n (some (.sil 0 (.sil 1 (.sil 2 (.sil 3 (.sil 4 (.sil 5 (.sil 6 (.sil 7 (.sil 8 (.sil 9 (.sil 10 (.sil 11 (.sil 12 (.sil 13 (.sil 14 (.sil 15 (.sil 16 (.sil 17 (.sil 18 (.sil 19 (.sil 20 (.sil 21 (.sil 22 (.eff 23 [1, 3, 6, 8, 10, 13, 15] (.sil 24 (.sil 25 (.eff 26 [] .fin)))))))))))))))))))))))))))) .e .e)) .e)) (.n (none) (.n (none) (.n (none) (.n (some (.sil 0 (.sil 1 (.sil 2 (.sil 3 (.sil 4 (.sil 5 (.sil 6 (.sil 9 (.sil 10 (.sil 13 (.eff 7 [1, 10, 13] (.eff 8 [1, 10, 13] (.eff 11 [1, 13] (.sil 12 (.eff 14 [1, 4, 6] (.sil 15 (.sil 16 (.sil 17 (.sil 18 (.eff 19 [] .fin))))))))))))))))))))) .e .e) .e) .e) (.n (none) .e (.n (some (.sil 0 (.sil 1 (.sil 2 (.sil 3 (.sil 4 (.sil 5 (.sil 6 (.sil 7 (.sil 8 .fin)))))))))) .e .e))))
theorem pre123_ok : bodyOk pre123 Tryz.f123 = true := by kernel_rfl
noncomputable def pre124 : Tr (Option Pre) := .e
theorem pre124_ok : bodyOk pre124 Tryz.f124 = true := by kernel_rfl
noncomputable def pre125 : Tr (Option Pre) := .e
theorem pre125_ok : bodyOk pre125 Tryz.f125 = true := by kernel_rfl
noncomputable def pre126 : Tr (Option Pre) := .e
theorem pre126_ok : bodyOk pre126 Tryz.f126 = true := by kernel_rfl
noncomputable def pre127 : Tr (Option Pre) := .e
theorem pre127_ok : bodyOk pre127 Tryz.f127 = true := by kernel_rfl
noncomputable def pre128 : Tr (Option Pre) := .e
theorem pre128_ok : bodyOk pre128 Tryz.f128 = true := by kernel_rfl
noncomputable def pre129 : Tr (Option Pre) := .e
theorem pre129_ok : bodyOk pre129 Tryz.f129 = true := by kernel_rfl
noncomputable def pre130 : Tr (Option Pre) := .e
theorem pre130_ok : bodyOk pre130 Tryz.f130 = true := by kernel_rfl
noncomputable def pre131 : Tr (Option Pre) := .e
theorem pre131_ok : bodyOk pre131 Tryz.f131 = true := by kernel_rfl
noncomputable def pre132 : Tr (Option Pre) := .e
theorem pre132_ok : bodyOk pre132 Tryz.f132 = true := by kernel_rfl
noncomputable def pre133 : Tr (Option Pre) := .e
theorem pre133_ok : bodyOk pre133 Tryz.f133 = true := by kernel_rfl
noncomputable def pre134 : Tr (Option Pre) := (.n (none) (.n (none) (.n (none) (.n (some (.sil 0 (.sil 1 (.sil 2 (.sil 3 (.eff 4 [1] (.sil 5 (.sil 6 (.sil 7 (.sil 8 (.eff 9 [1] (.sil 10 (.sil 11 (.sil 12 (.sil 13 (.sil 14 (.sil 15 (.sil 16 (.eff 17 [3, 8] (.sil 18 .fin)))))))))))))))))))) .e .e) .e) .e) (.n (none) (.n (some (.sil 0 (.sil 1 (.sil 2 (.sil 3 (.sil 5 (.sil 6 (.eff 4 [6] (.eff 7 [] (.sil 8 (.eff 9 [] .fin))))))))))) .e .e) .e))
theorem pre134_ok : bodyOk pre134 Tryz.f134 = true := by kernel_rfl
noncomputable def pre135 : Tr (Option Pre) := .e
theorem pre135_ok : bodyOk pre135 Tryz.f135 = true := by kernel_rfl
noncomputable def pre139 : Tr (Option Pre) := .e
theorem pre139_ok : bodyOk pre139 Tryz.f139 = true := by kernel_rfl
noncomputable def pre140 : Tr (Option Pre) := .e
theorem pre140_ok : bodyOk pre140 Tryz.f140 = true := by kernel_rfl
noncomputable def pre141 : Tr (Option Pre) := .e
theorem pre141_ok : bodyOk pre141 Tryz.f141 = true := by kernel_rfl
noncomputable def pre142 : Tr (Option Pre) := (.n (none) (.n (none) (.n (none) (.n (some (.sil 0 (.sil 1 (.sil 2 (.sil 3 (.sil 4 (.sil 6 (.sil 7 (.sil 8 (.sil 9 (.join (.alt (some [34, 39, 40, 7, 39, 34, 40, 7]) (.eff 5 [7] (.alt (some [39, 40, 7, 7, 39, 40]) (.eff 10 [2] (.sil 11 (.eff 12 [2, 7] .fin))) (.eff 12 [2, 7] (.eff 10 [2] (.sil 11 .fin))))) (.alt (some [39, 34, 40, 7, 7, 34, 39, 40]) (.eff 10 [2] (.alt (some [34, 40, 7, 7, 34, 40]) (.eff 5 [7] (.sil 11 (.eff 12 [2, 7] .fin))) (.eff 12 [2, 7] (.eff 5 [7] (.sil 11 .fin))))) (.eff 12 [2, 7] (.alt (some [34, 39, 40, 39, 34, 40]) (.eff 5 [7] (.eff 10 [2] (.sil 11 .fin))) (.eff 10 [2] (.eff 5 [7] (.sil 11 .fin))))))) (.eff 13 [] .fin)))))))))))) .e .e) .e) (.n (none) (.n (none) (.n (some (.sil 0 (.sil 1 (.sil 2 (.sil 3 (.sil 4 (.eff 5 [0] (.eff 6 [] (.sil 7 (.sil 8 (.sil 9 (.sil 10 (.sil 11 .fin))))))))))))) .e .e) .e) .e)) (.n (none) (.n (none) (.n (some (.sil 0 (.sil 1 (.sil 2 (.sil 3 (.sil 4 (.sil 5 (.sil 6 (.eff 7 [3] (.sil 8 (.eff 9 [] .fin))))))))))) .e .e) (.n (none) (.n (some (.sil 0 (.sil 1 (.sil 2 (.sil 3 (.sil 4 (.sil 5 (.sil 6 (.sil 7 (.sil 9 (.eff 8 [1, 4] (.sil 10 (.eff 11 [4] (.sil 12 (.eff 13 [] .fin))))))))))))))) .e .e) .e)) .e))
theorem pre142_ok : bodyOk pre142 Tryz.f142 = true := by kernel_rfl
noncomputable def pre143 : Tr (Option Pre) := .e
theorem pre143_ok : bodyOk pre143 Tryz.f143 = true := by kernel_rfl
noncomputable def pre144 : Tr (Option Pre) := (.n (none) .e (.n (some (.sil 0 (.sil 1 (.sil 2 (.sil 3 (.sil 4 (.sil 5 .fin))))))) .e .e))
theorem pre144_ok : bodyOk pre144 Tryz.f144 = true := by kernel_rfl
noncomputable def pre145 : Tr (Option Pre) := .e
theorem pre145_ok : bodyOk pre145 Tryz.f145 = true := by kernel_rfl
noncomputable def pre146 : Tr (Option Pre) := .e
theorem pre146_ok : bodyOk pre146 Tryz.f146 = true := by kernel_rfl
noncomputable def pre147 : Tr (Option Pre) := .e
theorem pre147_ok : bodyOk pre147 Tryz.f147 = true := by kernel_rfl
noncomputable def pre148 : Tr (Option Pre) := .e
theorem pre148_ok : bodyOk pre148 Tryz.f148 = true := by kernel_rfl
noncomputable def pre149 : Tr (Option Pre) := .e
theorem pre149_ok : bodyOk pre149 Tryz.f149 = true := by kernel_rfl
noncomputable def pre150 : Tr (Option Pre) := (.n (none) (.n (none) (.n (none) (.n (some (.sil 0 (.sil 1 (.sil 2 (.sil 3 (.eff 4 [] (.sil 5 (.sil 6 .fin)))))))) .e .e) .e) .e) .e)
theorem pre150_ok : bodyOk pre150 Tryz.f150 = true := by kernel_rfl
noncomputable def pre151 : Tr (Option Pre) := .e
theorem pre151_ok : bodyOk pre151 Tryz.f151 = true := by kernel_rfl
noncomputable def pre152 : Tr (Option Pre) := .e
theorem pre152_ok : bodyOk pre152 Tryz.f152 = true := by kernel_rfl
noncomputable def pre153 : Tr (Option Pre) := .e
theorem pre153_ok : bodyOk pre153 Tryz.f153 = true := by kernel_rfl
noncomputable def pre154 : Tr (Option Pre) := .e
theorem pre154_ok : bodyOk pre154 Tryz.f154 = true := by kernel_rfl
noncomputable def pre155 : Tr (Option Pre) := .e
theorem pre155_ok : bodyOk pre155 Tryz.f155 = true := by kernel_rfl
noncomputable def pre156 : Tr (Option Pre) := .e
theorem pre156_ok : bodyOk pre156 Tryz.f156 = true := by kernel_rfl
noncomputable def pre157 : Tr (Option Pre) := .e
theorem pre157_ok : bodyOk pre157 Tryz.f157 = true := by kernel_rfl
noncomputable def pre158 : Tr (Option Pre) := (.n (none) (.n (some (.sil 0 (.sil 1 (.sil 2 (.sil 3 (.sil 4 (.sil 5 (.sil 6 (.sil 7 (.sil 8 (.sil 9 (.sil 10 (.sil 11 .fin))))))))))))) .e .e) .e)
theorem pre158_ok : bodyOk pre158 Tryz.f158 = true := by kernel_rfl
noncomputable def pre159 : Tr (Option Pre) := (.n (none) (.n (some (.sil 0 (.sil 1 (.sil 2 (.sil 3 (.sil 4 (.sil 5 (.sil 6 (.sil 7 (.sil 8 (.sil 9 (.sil 10 (.sil 11 .fin))))))))))))) .e (.n (some (.sil 0 (.sil 1 (.sil 2 (.sil 3 (.sil 4 (.eff 5 [1] (.eff 6 [1] (.eff 7 [] (.sil 8 .fin)))))))))) .e .e)) (.n (some (.sil 0 (.sil 1 (.sil 2 (.sil 3 (.sil 4 (.sil 5 (.sil 6 (.eff 7 [3, 5] (.sil 8 (.eff 9 [] (.sil 10 .fin)))))))))))) .e .e))
theorem pre159_ok : bodyOk pre159 Tryz.f159 = true := by kernel_rfl
noncomputable def pre160 : Tr (Option Pre) := .e
theorem pre160_ok : bodyOk pre160 Tryz.f160 = true := by kernel_rfl
noncomputable def pre161 : Tr (Option Pre) := (.n (none) (.n (none) (.n (none) (.n (some (.sil 0 (.sil 1 (.sil 2 (.sil 3 (.sil 4 (.sil 6 (.sil 7 (.sil 8 (.sil 9 (.join (.alt (some [32, 37, 38, 5, 37, 32, 38, 5]) (.eff 5 [7] (.alt (some [37, 38, 5, 5, 37, 38]) (.eff 10 [2] (.sil 11 (.eff 12 [2, 7] .fin))) (.eff 12 [2, 7] (.eff 10 [2] (.sil 11 .fin))))) (.alt (some [37, 32, 38, 5, 5, 32, 37, 38]) (.eff 10 [2] (.alt (some [32, 38, 5, 5, 32, 38]) (.eff 5 [7] (.sil 11 (.eff 12 [2, 7] .fin))) (.eff 12 [2, 7] (.eff 5 [7] (.sil 11 .fin))))) (.eff 12 [2, 7] (.alt (some [32, 37, 38, 37, 32, 38]) (.eff 5 [7] (.eff 10 [2] (.sil 11 .fin))) (.eff 10 [2] (.eff 5 [7] (.sil 11 .fin))))))) (.eff 13 [] .fin)))))))))))) .e .e) (.n (none) (.n (some (.sil 0 (.sil 1 (.sil 2 (.sil 3 (.sil 4 (.sil 5 (.sil 6 (.sil 7 (.sil 8 (.sil 9 (.eff 10 [4] (.eff 11 [2, 4, 7] (.sil 12 .fin)))))))))))))) .e .e) .e)) (.n (none) (.n (none) .e (.n (some (.sil 0 (.sil 1 (.sil 2 (.sil 3 (.sil 4 (.sil 5 (.sil 6 (.sil 7 (.eff 8 [1, 5] (.sil 9 (.eff 10 [] .fin)))))))))))) .e .e)) (.n (some (.sil 0 (.sil 1 (.sil 2 (.sil 3 (.sil 4 (.sil 5 (.sil 6 (.sil 7 (.sil 8 (.eff 9 [1, 5, 8] (.eff 10 [] .fin)))))))))))) .e .e))) (.n (none) (.n (none) (.n (none) .e (.n (some (.sil 0 (.sil 1 (.sil 2 (.sil 3 (.sil 4 (.sil 5 (.sil 6 (.sil 7 (.eff 8 [1, 5] (.sil 9 (.eff 10 [] .fin)))))))))))) .e .e)) (.n (none) (.n (some (.sil 0 (.sil 1 (.sil 2 (.sil 3 (.sil 4 (.sil 5 (.sil 6 (.sil 7 (.sil 8 (.sil 9 (.eff 10 [4] (.eff 11 [2, 4, 7] (.sil 12 .fin)))))))))))))) .e .e) .e)) (.n (none) (.n (none) .e (.n (some (.sil 0 (.sil 1 (.sil 2 (.sil 3 (.sil 4 (.sil 5 (.sil 6 (.sil 7 (.sil 8 .fin)))))))))) .e .e)) .e)))
theorem pre161_ok : bodyOk pre161 Tryz.f161 = true := by kernel_rfl
noncomputable def pre164 : Tr (Option Pre) := .e
theorem pre164_ok : bodyOk pre164 Tryz.f164 = true := by kernel_rfl
noncomputable def pre165 : Tr (Option Pre) := .e
theorem pre165_ok : bodyOk pre165 Tryz.f165 = true := by kernel_rfl
noncomputable def pre166 : Tr (Option Pre) := .e
theorem pre166_ok : bodyOk pre166 Tryz.f166 = true := by kernel_rfl
noncomputable def pre167 : Tr (Option Pre) := .e
theorem pre167_ok : bodyOk pre167 Tryz.f167 = true := by kernel_rfl
noncomputable def pre168 : Tr (Option Pre) := (.n (none) (.n (none) .e (.n (none) (.n (some (.sil 0 (.sil 1 (.sil 3 (.sil 4 (.eff 2 [4] (.eff 5 [] (.sil 6 (.eff 7 [] (.sil 8 (.eff 9 [] .fin))))))))))) .e .e) .e)) (.n (none) (.n (none) .e (.n (some (.sil 0 (.sil 1 (.sil 3 (.sil 4 (.eff 2 [4] (.eff 5 [] (.sil 6 (.eff 7 [] (.sil 8 (.eff 9 [] .fin))))))))))) .e .e)) (.n (some (.sil 0 (.sil 1 (.sil 2 (.sil 3 (.eff 4 [1] (.eff 5 [1] (.eff 6 [] (.sil 7 (.eff 8 [] .fin)))))))))) .e .e)))
theorem pre168_ok : bodyOk pre168 Tryz.f168 = true := by kernel_rfl
noncomputable def pre169 : Tr (Option Pre) := .e
theorem pre169_ok : bodyOk pre169 Tryz.f169 = true := by kernel_rfl
noncomputable def pre170 : Tr (Option Pre) := (.n (none) (.n (none) (.n (some (.sil 0 (.sil 1 (.sil 2 (.sil 3 (.sil 4 (.sil 5 (.sil 6 (.sil 7 (.eff 8 [3] (.sil 9 (.sil 10 .fin)))))))))))) .e .e) .e) .e)
theorem pre170_ok : bodyOk pre170 Tryz.f170 = true := by kernel_rfl
noncomputable def pre171 : Tr (Option Pre) := .e
theorem pre171_ok : bodyOk pre171 Tryz.f171 = true := by kernel_rfl
noncomputable def pre172 : Tr (Option Pre) := .e
theorem pre172_ok : bodyOk pre172 Tryz.f172 = true := by kernel_rfl
noncomputable def pre173 : Tr (Option Pre) := (.n (none) (.n (some (.sil 0 (.sil 1 (.sil 2 (.sil 3 (.sil 4 (.sil 5 (.sil 6 (.sil 7 (.sil 8 (.sil 9 .fin))))))))))) (.n (none) (.n (some (.sil 0 (.sil 1 (.sil 2 (.sil 3 (.sil 4 (.sil 5 (.sil 6 (.sil 7 (.sil 8 (.sil 9 .fin))))))))))) .e .e) .e) (.n (none) (.n (some (.sil 0 (.sil 1 (.sil 2 (.sil 3 (.sil 4 (.sil 5 (.sil 6 (.sil 7 (.sil 8 (.sil 9 (.sil 10 (.eff 11 [8] (.sil 12 (.eff 13 [] .fin))))))))))))))) .e .e) (.n (none) .e (.n (some (.sil 0 (.sil 1 (.sil 2 (.sil 3 (.sil 4 (.sil 6 (.sil 7 (.sil 8 (.sil 9 (.sil 10 (.eff 5 [8, 10] (.eff 11 [] (.eff 12 [] (.eff 13 [] .fin))))))))))))))) .e .e)))) (.n (none) (.n (none) (.n (some (.sil 0 (.sil 1 (.sil 2 (.sil 5 (.sil 6 (.sil 7 (.join (.alt none (.eff 3 [7] (.alt none (.eff 4 [7] (.eff 8 [2] .fin)) (.eff 8 [2] (.eff 4 [7] .fin)))) (.eff 8 [2] (.eff 3 [7] (.eff 4 [7] .fin)))) (.eff 9 [] (.sil 10 (.sil 11 .fin))))))))))) .e .e) (.n (none) .e (.n (some (.sil 0 (.sil 1 (.sil 2 (.sil 3 (.sil 4 (.sil 6 (.sil 7 (.sil 8 (.sil 9 (.sil 10 (.eff 5 [8, 10] (.eff 11 [] (.eff 12 [] (.eff 13 [] .fin))))))))))))))) .e .e))) .e))
theorem pre173_ok : bodyOk pre173 Tryz.f173 = true := by kernel_rfl
noncomputable def pre174 : Tr (Option Pre) := (.n (none) .e (.n (none) .e (.n (some (.sil 0 (.sil 1 (.sil 2 (.sil 3 (.sil 4 (.sil 5 (.sil 6 (.sil 8 (.sil 9 (.sil 10 (.sil 11 (.sil 13 (.sil 14 (.sil 15 (.sil 16 (.eff 7 [11, 16] (.eff 12 [16] (.eff 17 [] (.sil 18 (.sil 19 (.eff 20 [] (.sil 21 (.sil 22 (.eff 23 [] (.sil 24 (.sil 25 (.eff 26 [] .fin)))))))))))))))))))))))))))) .e .e)))
theorem pre174_ok : bodyOk pre174 Tryz.f174 = true := by kernel_rfl
noncomputable def pre175 : Tr (Option Pre) := .e
theorem pre175_ok : bodyOk pre175 Tryz.f175 = true := by kernel_rfl
noncomputable def pre176 : Tr (Option Pre) := .e
theorem pre176_ok : bodyOk pre176 Tryz.f176 = true := by kernel_rfl
noncomputable def pre177 : Tr (Option Pre) := .e
theorem pre177_ok : bodyOk pre177 Tryz.f177 = true := by kernel_rfl
noncomputable def pre178 : Tr (Option Pre) := .e
theorem pre178_ok : bodyOk pre178 Tryz.f178 = true := by kernel_rfl
noncomputable def pre179 : Tr (Option Pre) := .e
theorem pre179_ok : bodyOk pre179 Tryz.f179 = true := by kernel_rfl
noncomputable def pre181 : Tr (Option Pre) := (.n (none) (.n (none) (.n (some (.sil 0 (.sil 1 (.sil 2 (.sil 3 (.sil 4 (.sil 5 (.sil 6 (.sil 7 (.eff 8 [4] (.sil 9 (.sil 10 (.sil 11 (.eff 12 [] .fin)))))))))))))) .e .e) .e) .e)
theorem pre181_ok : bodyOk pre181 Tryz.f181 = true := by kernel_rfl
noncomputable def pre182 : Tr (Option Pre) := .e
theorem pre182_ok : bodyOk pre182 Tryz.f182 = true := by kernel_rfl
noncomputable def pre183 : Tr (Option Pre) := (.n (none) .e (.n (none) (.n (none) .e (.n (some (.sil 0 (.sil 1 (.sil 2 (.sil 3 (.sil 4 (.sil 5 (.sil 6 (.sil 7 (.sil 8 .fin)))))))))) .e .e)) .e))
theorem pre183_ok : bodyOk pre183 Tryz.f183 = true := by kernel_rfl
noncomputable def pre184 : Tr (Option Pre) := .e
theorem pre184_ok : bodyOk pre184 Tryz.f184 = true := by kernel_rfl
noncomputable def pre185 : Tr (Option Pre) := (.n (none) (.n (none) (.n (none) .e (.n (some (.sil 0 (.sil 1 (.sil 2 (.sil 3 (.sil 4 (.sil 5 (.sil 6 (.sil 7 (.sil 8 (.sil 9 (.sil 11 (.sil 12 (.sil 13 (.sil 14 (.sil 15 (.sil 16 (.eff 10 [4, 6, 14] (.sil 17 (.eff 18 [14] (.eff 19 [4, 14] (.eff 20 [4, 14] (.sil 21 .fin))))))))))))))))))))))) .e .e)) .e) .e)
theorem pre185_ok : bodyOk pre185 Tryz.f185 = true := by kernel_rfl
noncomputable def pre186 : Tr (Option Pre) := (.n (none) (.n (none) (.n (none) (.n (some (.sil 0 (.sil 1 (.sil 2 (.sil 3 (.sil 4 (.sil 5 (.sil 6 (.sil 7 (.sil 9 (.eff 8 [5] (.sil 10 (.eff 11 [] (.sil 12 (.eff 13 [] .fin))))))))))))))) .e .e) .e) .e) .e)
theorem pre186_ok : bodyOk pre186 Tryz.f186 = true := by kernel_rfl
noncomputable def pre187 : Tr (Option Pre) := .e
theorem pre187_ok : bodyOk pre187 Tryz.f187 = true := by kernel_rfl
noncomputable def pre188 : Tr (Option Pre) := .e
theorem pre188_ok : bodyOk pre188 Tryz.f188 = true := by kernel_rfl
noncomputable def pre189 : Tr (Option Pre) := (.n (none) .e (.n (none) (.n (none) .e (.n (some (.sil 0 (.sil 2 (.eff 1 [2] (.eff 3 [] (.sil 4 (.sil 5 .fin))))))) .e (.n (some (.sil 0 (.sil 1 (.sil 2 (.sil 3 (.sil 4 (.sil 6 (.sil 7 (.sil 8 (.sil 9 (.sil 10 (.eff 5 [8, 10] (.eff 11 [] (.eff 12 [] (.eff 13 [] .fin))))))))))))))) .e .e))) (.n (none) (.n (none) .e (.n (some (.sil 0 (.sil 1 (.sil 2 (.sil 3 (.sil 4 (.sil 6 (.sil 7 (.sil 8 (.sil 9 (.sil 10 (.eff 5 [8, 10] (.eff 11 [] (.eff 12 [] (.eff 13 [] .fin))))))))))))))) .e .e)) .e)))
theorem pre189_ok : bodyOk pre189 Tryz.f189 = true := by kernel_rfl
noncomputable def pre190 : Tr (Option Pre) := (.n (none) (.n (none) .e (.n (none) .e (.n (some (.sil 0 (.sil 1 (.sil 2 (.sil 3 (.sil 4 (.sil 5 (.sil 6 (.eff 7 [] (.sil 8 (.eff 9 [] .fin))))))))))) .e .e))) .e)
theorem pre190_ok : bodyOk pre190 Tryz.f190 = true := by kernel_rfl
noncomputable def pre191 : Tr (Option Pre) := .e
theorem pre191_ok : bodyOk pre191 Tryz.f191 = true := by kernel_rfl
noncomputable def pre192 : Tr (Option Pre) := .e
theorem pre192_ok : bodyOk pre192 Tryz.f192 = true := by kernel_rfl
noncomputable def pre193 : Tr (Option Pre) := .e
theorem pre193_ok : bodyOk pre193 Tryz.f193 = true := by kernel_rfl
noncomputable def pre194 : Tr (Option Pre) := (.n (none) .e (.n (none) .e (.n (none) (.n (some (.sil 0 (.sil 1 (.sil 2 (.sil 3 (.sil 4 (.sil 5 (.sil 6 (.sil 7 (.sil 8 (.sil 9 (.sil 10 (.sil 11 (.eff 12 [1, 3, 5, 8, 10] (.eff 13 [] .fin))))))))))))))) .e .e) .e)))
theorem pre194_ok : bodyOk pre194 Tryz.f194 = true := by kernel_rfl
noncomputable def pre195 : Tr (Option Pre) := .e
theorem pre195_ok : bodyOk pre195 Tryz.f195 = true := by kernel_rfl
noncomputable def pre196 : Tr (Option Pre) := .e
theorem pre196_ok : bodyOk pre196 Tryz.f196 = true := by kernel_rfl
noncomputable def pre197 : Tr (Option Pre) := .e
theorem pre197_ok : bodyOk pre197 Tryz.f197 = true := by kernel_rfl
noncomputable def pre198 : Tr (Option Pre) := .e
theorem pre198_ok : bodyOk pre198 Tryz.f198 = true := by kernel_rfl
noncomputable def pre199 : Tr (Option Pre) := .e
theorem pre199_ok : bodyOk pre199 Tryz.f199 = true := by kernel_rfl
noncomputable def pre200 : Tr (Option Pre) := .e
theorem pre200_ok : bodyOk pre200 Tryz.f200 = true := by kernel_rfl
noncomputable def pre201 : Tr (Option Pre) := .e
theorem pre201_ok : bodyOk pre201 Tryz.f201 = true := by kernel_rfl
noncomputable def pre202 : Tr (Option Pre) := .e
theorem pre202_ok : bodyOk pre202 Tryz.f202 = true := by kernel_rfl
noncomputable def pre203 : Tr (Option Pre) := (.n (none) (.n (none) (.n (none) (.n (some (.sil 0 (.sil 1 (.sil 2 (.sil 3 (.sil 4 (.sil 5 (.sil 8 (.sil 9 (.sil 10 (.sil 11 (.sil 12 (.sil 13 (.sil 14 (.sil 15 (.sil 16 (.sil 17 (.sil 18 (.eff 6 [11, 13, 16, 18] (.eff 7 [11, 13, 16, 18] (.sil 19 (.sil 20 .fin)))))))))))))))))))))) .e .e) .e) .e) .e)
theorem pre203_ok : bodyOk pre203 Tryz.f203 = true := by kernel_rfl
noncomputable def pre204 : Tr (Option Pre) := .e
theorem pre204_ok : bodyOk pre204 Tryz.f204 = true := by kernel_rfl
noncomputable def pre205 : Tr (Option Pre) := .e
theorem pre205_ok : bodyOk pre205 Tryz.f205 = true := by kernel_rfl
noncomputable def pre206 : Tr (Option Pre) := .e
theorem pre206_ok : bodyOk pre206 Tryz.f206 = true := by kernel_rfl
noncomputable def pre207 : Tr (Option Pre) := .e
theorem pre207_ok : bodyOk pre207 Tryz.f207 = true := by kernel_rfl
noncomputable def pre208 : Tr (Option Pre) := .e
theorem pre208_ok : bodyOk pre208 Tryz.f208 = true := by kernel_rfl
noncomputable def pre209 : Tr (Option Pre) := .e
theorem pre209_ok : bodyOk pre209 Tryz.f209 = true := by kernel_rfl
noncomputable def pre210 : Tr (Option Pre) := .e
theorem pre210_ok : bodyOk pre210 Tryz.f210 = true := by kernel_rfl
noncomputable def pre211 : Tr (Option Pre) := .e
theorem pre211_ok : bodyOk pre211 Tryz.f211 = true := by kernel_rfl
noncomputable def pre214 : Tr (Option Pre) := .e
theorem pre214_ok : bodyOk pre214 Tryz.f214 = true := by kernel_rfl
noncomputable def pre215 : Tr (Option Pre) := .e
theorem pre215_ok : bodyOk pre215 Tryz.f215 = true := by kernel_rfl
noncomputable def pre216 : Tr (Option Pre) := .e
theorem pre216_ok : bodyOk pre216 Tryz.f216 = true := by kernel_rfl
noncomputable def pre217 : Tr (Option Pre) := (.n (none) (.n (none) (.n (none) (.n (some (.sil 0 (.sil 1 (.eff 2 [0] (.sil 3 (.sil 4 (.sil 5 .fin))))))) .e .e) .e) .e) .e)
theorem pre217_ok : bodyOk pre217 Tryz.f217 = true := by kernel_rfl
noncomputable def pre218 : Tr (Option Pre) := .e
theorem pre218_ok : bodyOk pre218 Tryz.f218 = true := by kernel_rfl
noncomputable def pre219 : Tr (Option Pre) := .e
theorem pre219_ok : bodyOk pre219 Tryz.f219 = true := by kernel_rfl
noncomputable def pre220 : Tr (Option Pre) := .e
theorem pre220_ok : bodyOk pre220 Tryz.f220 = true := by kernel_rfl
noncomputable def pre221 : Tr (Option Pre) := .e
theorem pre221_ok : bodyOk pre221 Tryz.f221 = true := by kernel_rfl
noncomputable def pre222 : Tr (Option Pre) := .e
theorem pre222_ok : bodyOk pre222 Tryz.f222 = true := by kernel_rfl
noncomputable def pre223 : Tr (Option Pre) := .e
theorem pre223_ok : bodyOk pre223 Tryz.f223 = true := by kernel_rfl
noncomputable def pre224 : Tr (Option Pre) := (.n (none) (.n (none) (.n (some (.sil 0 (.eff 1 [] (.sil 2 (.sil 3 (.sil 4 (.eff 5 [] (.sil 6 (.sil 7 (.sil 8 (.eff 9 [0] (.sil 10 (.sil 11 (.sil 12 (.sil 13 (.sil 14 (.eff 15 [0, 4, 13] (.sil 16 (.eff 17 [0, 4] (.sil 18 (.sil 19 (.sil 20 (.sil 21 (.sil 22 (.eff 23 [0, 4, 8, 14, 21] (.sil 24 (.eff 25 [0, 4, 8, 14] (.sil 26 (.sil 27 (.sil 28 .fin)))))))))))))))))))))))))))))) .e .e) .e) .e)
theorem pre224_ok : bodyOk pre224 Tryz.f224 = true := by kernel_rfl
noncomputable def pre225 : Tr (Option Pre) := .e
theorem pre225_ok : bodyOk pre225 Tryz.f225 = true := by kernel_rfl
noncomputable def pre226 : Tr (Option Pre) := .e
theorem pre226_ok : bodyOk pre226 Tryz.f226 = true := by kernel_rfl
noncomputable def pre227 : Tr (Option Pre) := (.n (none) (.n (some (.sil 0 (.sil 2 (.eff 1 [2] (.eff 3 [] (.sil 4 (.sil 5 (.sil 6 .fin)))))))) .e .e) .e)
theorem pre227_ok : bodyOk pre227 Tryz.f227 = true := by kernel_rfl
noncomputable def pre228 : Tr (Option Pre) := .e
theorem pre228_ok : bodyOk pre228 Tryz.f228 = true := by kernel_rfl
noncomputable def pre229 : Tr (Option Pre) := .e
theorem pre229_ok : bodyOk pre229 Tryz.f229 = true := by kernel_rfl
noncomputable def pre230 : Tr (Option Pre) := .e
theorem pre230_ok : bodyOk pre230 Tryz.f230 = true := by kernel_rfl
noncomputable def pre231 : Tr (Option Pre) := (.n (none) .e (.n (none) .e (.n (none) .e (.n (some (.sil 0 (.sil 1 (.sil 2 (.sil 3 (.eff 4 [] (.sil 5 .fin))))))) (.n (some (.sil 0 (.sil 1 (.sil 2 (.sil 3 (.sil 4 (.sil 5 (.sil 6 (.sil 7 (.sil 8 (.sil 9 (.sil 10 (.sil 11 (.sil 12 .fin)))))))))))))) .e .e) .e))))
theorem pre231_ok : bodyOk pre231 Tryz.f231 = true := by kernel_rfl
noncomputable def pre232 : Tr (Option Pre) := .e
theorem pre232_ok : bodyOk pre232 Tryz.f232 = true := by kernel_rfl
noncomputable def pre233 : Tr (Option Pre) := .e
theorem pre233_ok : bodyOk pre233 Tryz.f233 = true := by kernel_rfl
noncomputable def pre235 : Tr (Option Pre) := .e
theorem pre235_ok : bodyOk pre235 Tryz.f235 = true := by kernel_rfl
noncomputable def pre237 : Tr (Option Pre) := .e
theorem pre237_ok : bodyOk pre237 Tryz.f237 = true := by kernel_rfl
noncomputable def pre238 : Tr (Option Pre) := (.n (none) .e (.n (none) .e (.n (none) (.n (some (.sil 0 (.sil 1 (.sil 2 (.sil 3 (.sil 4 (.sil 5 (.sil 6 (.sil 7 (.sil 9 (.sil 13 (.sil 14 (.eff 8 [4] (.sil 10 (.sil 11 (.sil 12 (.sil 15 (.sil 16 (.sil 17 .fin))))))))))))))))))) .e .e) .e)))
theorem pre238_ok : bodyOk pre238 Tryz.f238 = true := by kernel_rfl
noncomputable def pre239 : Tr (Option Pre) := .e
theorem pre239_ok : bodyOk pre239 Tryz.f239 = true := by kernel_rfl
noncomputable def pre240 : Tr (Option Pre) := .e
theorem pre240_ok : bodyOk pre240 Tryz.f240 = true := by kernel_rfl
noncomputable def pre241 : Tr (Option Pre) := (.n (none) (.n (none) (.n (none) .e (.n (some (.sil 0 (.sil 1 (.sil 2 (.sil 4 (.sil 5 (.sil 6 (.eff 3 [4, 6] (.sil 8 (.eff 7 [] (.eff 9 [] (.sil 10 (.eff 11 [] .fin))))))))))))) .e .e)) .e) .e)
theorem pre241_ok : bodyOk pre241 Tryz.f241 = true := by kernel_rfl
noncomputable def pre242 : Tr (Option Pre) := .e
theorem pre242_ok : bodyOk pre242 Tryz.f242 = true := by kernel_rfl
noncomputable def pre243 : Tr (Option Pre) := .e
theorem pre243_ok : bodyOk pre243 Tryz.f243 = true := by kernel_rfl
noncomputable def pre244 : Tr (Option Pre) := .e
theorem pre244_ok : bodyOk pre244 Tryz.f244 = true := by kernel_rfl
noncomputable def pre245 : Tr (Option Pre) := .e
theorem pre245_ok : bodyOk pre245 Tryz.f245 = true := by kernel_rfl
noncomputable def pre246 : Tr (Option Pre) := (.n (none) (.n (none) (.n (none) .e (.n (some (.sil 0 (.sil 1 (.sil 2 (.sil 3 (.sil 4 (.sil 5 (.sil 6 (.sil 7 (.sil 8 (.sil 9 .fin))))))))))) .e .e)) .e) (.n (none) .e (.n (some (.sil 0 (.sil 1 (.sil 2 (.sil 3 (.sil 4 (.sil 5 (.sil 6 (.sil 7 (.sil 8 (.sil 9 .fin))))))))))) .e .e)))
theorem pre246_ok : bodyOk pre246 Tryz.f246 = true := by kernel_rfl
noncomputable def pre247 : Tr (Option Pre) := .e
theorem pre247_ok : bodyOk pre247 Tryz.f247 = true := by kernel_rfl
noncomputable def pre248 : Tr (Option Pre) := .e
theorem pre248_ok : bodyOk pre248 Tryz.f248 = true := by kernel_rfl
noncomputable def pre249 : Tr (Option Pre) := .e
theorem pre249_ok : bodyOk pre249 Tryz.f249 = true := by kernel_rfl
noncomputable def pre250 : Tr (Option Pre) := (.n (none) (.n (none) (.n (some (.sil 0 (.sil 1 (.sil 2 (.sil 3 (.sil 4 (.sil 5 (.sil 6 (.sil 7 (.sil 8 (.sil 9 (.sil 10 (.sil 11 (.sil 12 (.eff 13 [] (.sil 14 (.sil 15 (.eff 16 [] (.sil 17 (.sil 18 (.eff 19 [] .fin))))))))))))))))))))) .e .e) (.n (some (.sil 0 (.sil 1 (.sil 2 (.sil 3 (.sil 4 (.sil 5 (.sil 6 (.sil 7 (.sil 8 (.sil 9 (.sil 10 (.sil 11 (.sil 12 (.sil 13 (.sil 14 (.sil 15 (.sil 16 (.sil 17 (.eff 18 [] (.sil 19 (.sil 20 (.eff 21 [] (.sil 22 (.sil 23 (.eff 24 [] .fin)))))))))))))))))))))))))) .e .e)) .e)
theorem pre250_ok : bodyOk pre250 Tryz.f250 = true := by kernel_rfl
noncomputable def pre251 : Tr (Option Pre) := .e
theorem pre251_ok : bodyOk pre251 Tryz.f251 = true := by kernel_rfl
noncomputable def pre252 : Tr (Option Pre) := .e
theorem pre252_ok : bodyOk pre252 Tryz.f252 = true := by kernel_rfl
noncomputable def pre253 : Tr (Option Pre) := (.n (none) .e (.n (none) .e (.n (some (.sil 0 (.sil 1 (.sil 2 (.sil 3 (.sil 4 (.eff 5 [] .fin))))))) .e .e)))
theorem pre253_ok : bodyOk pre253 Tryz.f253 = true := by kernel_rfl
noncomputable def pre254 : Tr (Option Pre) := .e
theorem pre254_ok : bodyOk pre254 Tryz.f254 = true := by kernel_rfl
noncomputable def pre259 : Tr (Option Pre) := .e
theorem pre259_ok : bodyOk pre259 Tryz.f259 = true := by kernel_rfl
noncomputable def pre260 : Tr (Option Pre) := (.n (none) (.n (none) (.n (some (.sil 0 (.sil 1 (.sil 2 (.sil 3 (.sil 5 (.eff 4 [] (.sil 6 .fin)))))))) .e .e) .e) .e)
theorem pre260_ok : bodyOk pre260 Tryz.f260 = true := by kernel_rfl
noncomputable def pre261 : Tr (Option Pre) := .e
theorem pre261_ok : bodyOk pre261 Tryz.f261 = true := by kernel_rfl
noncomputable def pre262 : Tr (Option Pre) := .e
theorem pre262_ok : bodyOk pre262 Tryz.f262 = true := by kernel_rfl
noncomputable def pre263 : Tr (Option Pre) := .e
theorem pre263_ok : bodyOk pre263 Tryz.f263 = true := by kernel_rfl
noncomputable def pre264 : Tr (Option Pre) := .e
theorem pre264_ok : bodyOk pre264 Tryz.f264 = true := by kernel_rfl
noncomputable def pre265 : Tr (Option Pre) := .e
theorem pre265_ok : bodyOk pre265 Tryz.f265 = true := by kernel_rfl
noncomputable def pre266 : Tr (Option Pre) := .e
theorem pre266_ok : bodyOk pre266 Tryz.f266 = true := by kernel_rfl
noncomputable def pre267 : Tr (Option Pre) := .e
theorem pre267_ok : bodyOk pre267 Tryz.f267 = true := by kernel_rfl
noncomputable def pre268 : Tr (Option Pre) := (.n (none) (.n (some (.sil 0 (.sil 1 (.sil 2 (.sil 3 (.sil 4 (.sil 5 (.sil 6 (.eff 7 [] (.sil 8 .fin)))))))))) .e .e) .e)
theorem pre268_ok : bodyOk pre268 Tryz.f268 = true := by kernel_rfl
noncomputable def pre269 : Tr (Option Pre) := (.n (none) (.n (some (.sil 0 (.sil 1 (.sil 2 (.sil 3 (.sil 4 (.sil 5 (.sil 6 (.eff 7 [] (.sil 8 .fin)))))))))) .e .e) .e)
theorem pre269_ok : bodyOk pre269 Tryz.f269 = true := by kernel_rfl
noncomputable def pre270 : Tr (Option Pre) := .e
theorem pre270_ok : bodyOk pre270 Tryz.f270 = true := by kernel_rfl
noncomputable def pre271 : Tr (Option Pre) := .e
theorem pre271_ok : bodyOk pre271 Tryz.f271 = true := by kernel_rfl
noncomputable def pre272 : Tr (Option Pre) := .e
theorem pre272_ok : bodyOk pre272 Tryz.f272 = true := by kernel_rfl
noncomputable def pre273 : Tr (Option Pre) := .e
theorem pre273_ok : bodyOk pre273 Tryz.f273 = true := by kernel_rfl
noncomputable def pre274 : Tr (Option Pre) := .e
theorem pre274_ok : bodyOk pre274 Tryz.f274 = true := by kernel_rfl
noncomputable def pre275 : Tr (Option Pre) := .e
theorem pre275_ok : bodyOk pre275 Tryz.f275 = true := by kernel_rfl
noncomputable def pre276 : Tr (Option Pre) := .e
theorem pre276_ok : bodyOk pre276 Tryz.f276 = true := by kernel_rfl
noncomputable def pre277 : Tr (Option Pre) := .e
theorem pre277_ok : bodyOk pre277 Tryz.f277 = true := by kernel_rfl
noncomputable def pre278 : Tr (Option Pre) := .e
theorem pre278_ok : bodyOk pre278 Tryz.f278 = true := by kernel_rfl
noncomputable def pre279 : Tr (Option Pre) := .e
theorem pre279_ok : bodyOk pre279 Tryz.f279 = true := by kernel_rfl
noncomputable def pre280 : Tr (Option Pre) := .e
theorem pre280_ok : bodyOk pre280 Tryz.f280 = true := by kernel_rfl
noncomputable def pre281 : Tr (Option Pre) := .e
theorem pre281_ok : bodyOk pre281 Tryz.f281 = true := by kernel_rfl
noncomputable def pre282 : Tr (Option Pre) := .e
theorem pre282_ok : bodyOk pre282 Tryz.f282 = true := by kernel_rfl
noncomputable def pre283 : Tr (Option Pre) := .e
theorem pre283_ok : bodyOk pre283 Tryz.f283 = true := by kernel_rfl
noncomputable def pre284 : Tr (Option Pre) := (.n (none) (.n (none) (.n (some (.sil 0 (.sil 1 (.sil 2 (.sil 3 (.sil 5 (.sil 6 (.sil 7 (.sil 8 (.sil 9 (.sil 11 (.eff 4 [8] (.sil 10 (.sil 12 .fin)))))))))))))) .e .e) .e) .e)
theorem pre284_ok : bodyOk pre284 Tryz.f284 = true := by kernel_rfl
noncomputable def pre285 : Tr (Option Pre) := .e
theorem pre285_ok : bodyOk pre285 Tryz.f285 = true := by kernel_rfl
noncomputable def pre286 : Tr (Option Pre) := (.n (none) (.n (some (.sil 0 (.sil 1 (.sil 2 (.sil 3 (.sil 5 (.sil 6 (.sil 7 (.sil 8 (.sil 9 (.eff 4 [8] (.eff 10 [] (.sil 11 .fin))))))))))))) .e .e) .e)
theorem pre286_ok : bodyOk pre286 Tryz.f286 = true := by kernel_rfl
noncomputable def pre287 : Tr (Option Pre) := .e
theorem pre287_ok : bodyOk pre287 Tryz.f287 = true := by kernel_rfl
noncomputable def pre292 : Tr (Option Pre) := .e
theorem pre292_ok : bodyOk pre292 Tryz.f292 = true := by kernel_rfl
noncomputable def pre293 : Tr (Option Pre) := .e
theorem pre293_ok : bodyOk pre293 Tryz.f293 = true := by kernel_rfl
noncomputable def pre294 : Tr (Option Pre) := .e
theorem pre294_ok : bodyOk pre294 Tryz.f294 = true := by kernel_rfl
noncomputable def pre295 : Tr (Option Pre) := .e
theorem pre295_ok : bodyOk pre295 Tryz.f295 = true := by kernel_rfl
noncomputable def pre296 : Tr (Option Pre) := .e
theorem pre296_ok : bodyOk pre296 Tryz.f296 = true := by kernel_rfl
noncomputable def pre297 : Tr (Option Pre) := .e
theorem pre297_ok : bodyOk pre297 Tryz.f297 = true := by kernel_rfl
noncomputable def pre298 : Tr (Option Pre) := .e
theorem pre298_ok : bodyOk pre298 Tryz.f298 = true := by kernel_rfl
noncomputable def pre299 : Tr (Option Pre) := .e
theorem pre299_ok : bodyOk pre299 Tryz.f299 = true := by kernel_rfl
noncomputable def pre300 : Tr (Option Pre) := (.n (none) (.n (none) .e (.n (none) .e (.n (none) (.n (some (.sil 0 (.sil 1 (.sil 2 (.sil 3 (.sil 4 (.eff 5 [1] (.sil 6 (.sil 7 (.sil 8 (.sil 9 (.sil 10 (.sil 11 (.sil 12 (.sil 13 (.sil 14 (.sil 15 (.sil 16 (.sil 17 (.sil 18 (.sil 19 (.sil 20 (.sil 21 .fin))))))))))))))))))))))) .e .e) .e))) (.n (none) .e (.n (none) (.n (some (.sil 0 (.sil 1 (.sil 2 (.sil 3 (.sil 4 (.sil 5 (.sil 6 (.sil 7 (.sil 8 (.eff 9 [7] (.sil 10 (.sil 11 (.sil 12 (.sil 13 (.sil 14 (.sil 15 (.sil 16 (.sil 17 (.sil 18 (.sil 19 (.sil 20 (.eff 21 [3, 7, 8, 14, 19] (.sil 22 (.sil 23 (.sil 24 .fin)))))))))))))))))))))))))) .e .e) .e)))
theorem pre300_ok : bodyOk pre300 Tryz.f300 = true := by kernel_rfl
noncomputable def pre301 : Tr (Option Pre) := .e
theorem pre301_ok : bodyOk pre301 Tryz.f301 = true := by kernel_rfl
noncomputable def pre302 : Tr (Option Pre) := (.n (none) (.n (some (.sil 0 (.sil 1 (.sil 2 (.sil 3 (.sil 4 (.sil 5 (.sil 6 (.sil 7 (.sil 8 (.sil 9 (.sil 10 (.sil 11 .fin))))))))))))) (.n (none) (.n (some (.sil 0 (.sil 1 (.sil 2 (.sil 3 (.sil 4 (.sil 5 (.sil 6 (.sil 7 (.sil 8 (.sil 9 (.sil 10 (.sil 11 .fin))))))))))))) .e .e) .e) .e) (.n (none) .e (.n (some (.sil 0 (.sil 1 (.sil 2 (.sil 3 (.sil 4 (.sil 5 (.sil 6 (.sil 7 (.sil 8 (.sil 9 (.sil 10 (.sil 11 .fin))))))))))))) .e .e)))
theorem pre302_ok : bodyOk pre302 Tryz.f302 = true := by kernel_rfl
noncomputable def pre303 : Tr (Option Pre) := .e
theorem pre303_ok : bodyOk pre303 Tryz.f303 = true := by kernel_rfl
noncomputable def pre304 : Tr (Option Pre) := .e
theorem pre304_ok : bodyOk pre304 Tryz.f304 = true := by kernel_rfl
noncomputable def pre305 : Tr (Option Pre) := .e
theorem pre305_ok : bodyOk pre305 Tryz.f305 = true := by kernel_rfl
noncomputable def pre306 : Tr (Option Pre) := .e
theorem pre306_ok : bodyOk pre306 Tryz.f306 = true := by kernel_rfl
noncomputable def pre307 : Tr (Option Pre) := .e
theorem pre307_ok : bodyOk pre307 Tryz.f307 = true := by kernel_rfl
noncomputable def pre308 : Tr (Option Pre) := .e
theorem pre308_ok : bodyOk pre308 Tryz.f308 = true := by kernel_rfl
noncomputable def pre309 : Tr (Option Pre) := .e
theorem pre309_ok : bodyOk pre309 Tryz.f309 = true := by kernel_rfl
noncomputable def pre310 : Tr (Option Pre) := .e
theorem pre310_ok : bodyOk pre310 Tryz.f310 = true := by kernel_rfl
noncomputable def pre311 : Tr (Option Pre) := .e
theorem pre311_ok : bodyOk pre311 Tryz.f311 = true := by kernel_rfl
noncomputable def pre312 : Tr (Option Pre) := .e
theorem pre312_ok : bodyOk pre312 Tryz.f312 = true := by kernel_rfl
noncomputable def pre313 : Tr (Option Pre) := .e
theorem pre313_ok : bodyOk pre313 Tryz.f313 = true := by kernel_rfl
noncomputable def pre319 : Tr (Option Pre) := .e
theorem pre319_ok : bodyOk pre319 Tryz.f319 = true := by kernel_rfl
noncomputable def pre320 : Tr (Option Pre) := .e
theorem pre320_ok : bodyOk pre320 Tryz.f320 = true := by kernel_rfl
noncomputable def pre321 : Tr (Option Pre) := .e
theorem pre321_ok : bodyOk pre321 Tryz.f321 = true := by kernel_rfl
noncomputable def pre322 : Tr (Option Pre) := .e
theorem pre322_ok : bodyOk pre322 Tryz.f322 = true := by kernel_rfl
noncomputable def pre323 : Tr (Option Pre) := .e
theorem pre323_ok : bodyOk pre323 Tryz.f323 = true := by kernel_rfl
noncomputable def pre324 : Tr (Option Pre) := .e
theorem pre324_ok : bodyOk pre324 Tryz.f324 = true := by kernel_rfl
noncomputable def pre325 : Tr (Option Pre) := .e
theorem pre325_ok : bodyOk pre325 Tryz.f325 = true := by kernel_rfl
noncomputable def pre326 : Tr (Option Pre) := .e
theorem pre326_ok : bodyOk pre326 Tryz.f326 = true := by kernel_rfl
noncomputable def pre327 : Tr (Option Pre) := .e
theorem pre327_ok : bodyOk pre327 Tryz.f327 = true := by kernel_rfl
noncomputable def pre328 : Tr (Option Pre) := .e
theorem pre328_ok : bodyOk pre328 Tryz.f328 = true := by kernel_rfl
noncomputable def pre329 : Tr (Option Pre) := (.n (some (.sil 0 (.sil 1 (.sil 2 (.sil 3 (.sil 6 (.sil 9 (.sil 10 (.sil 11 (.sil 12 (.sil 13 (.eff 4 [12] (.sil 5 (.sil 7 (.eff 8 [3, 12] (.sil 14 (.sil 15 .fin))))))))))))))))) .e .e)
theorem pre329_ok : bodyOk pre329 Tryz.f329 = true := by kernel_rfl
noncomputable def pre332 : Tr (Option Pre) := .e
theorem pre332_ok : bodyOk pre332 Tryz.f332 = true := by kernel_rfl
noncomputable def pre333 : Tr (Option Pre) := .e
theorem pre333_ok : bodyOk pre333 Tryz.f333 = true := by kernel_rfl
noncomputable def pre334 : Tr (Option Pre) := (.n (none) (.n (none) .e (.n (none) (.n (none) (.n (some (.sil 0 (.sil 1 (.sil 2 (.sil 3 (.sil 4 (.sil 5 (.sil 6 (.sil 7 (.sil 8 (.sil 9 (.sil 10 (.sil 11 (.eff 12 [] (.sil 13 (.sil 14 .fin)))))))))))))))) .e .e) .e) .e)) .e)
theorem pre334_ok : bodyOk pre334 Tryz.f334 = true := by kernel_rfl
noncomputable def pre335 : Tr (Option Pre) := .e
theorem pre335_ok : bodyOk pre335 Tryz.f335 = true := by kernel_rfl
noncomputable def pre338 : Tr (Option Pre) := .e
theorem pre338_ok : bodyOk pre338 Tryz.f338 = true := by kernel_rfl
noncomputable def pre339 : Tr (Option Pre) := (.n (none) (.n (none) (.n (some (.sil 0 (.sil 1 (.sil 2 (.sil 3 (.sil 4 (.sil 5 (.sil 6 (.sil 7 .fin))))))))) .e .e) .e) .e)
theorem pre339_ok : bodyOk pre339 Tryz.f339 = true := by kernel_rfl
noncomputable def pre340 : Tr (Option Pre) := .e
theorem pre340_ok : bodyOk pre340 Tryz.f340 = true := by kernel_rfl
noncomputable def pre341 : Tr (Option Pre) := .e
theorem pre341_ok : bodyOk pre341 Tryz.f341 = true := by kernel_rfl
noncomputable def pre342 : Tr (Option Pre) := .e
theorem pre342_ok : bodyOk pre342 Tryz.f342 = true := by kernel_rfl
noncomputable def pre343 : Tr (Option Pre) := .e
theorem pre343_ok : bodyOk pre343 Tryz.f343 = true := by kernel_rfl
noncomputable def pre346 : Tr (Option Pre) := (.n (none) .e (.n (none) (.n (some (.sil 0 (.sil 1 (.sil 2 (.sil 3 (.sil 4 (.sil 5 (.sil 6 (.sil 7 (.sil 8 (.sil 9 (.sil 10 (.sil 11 (.sil 12 (.eff 13 [] (.sil 14 .fin)))))))))))))))) .e .e) (.n (some (.sil 0 (.sil 1 (.sil 2 (.sil 3 (.sil 4 (.sil 5 (.sil 6 (.sil 7 (.sil 8 (.sil 9 (.sil 10 (.sil 11 (.sil 12 (.sil 13 (.sil 14 (.eff 15 [] (.sil 16 (.eff 17 [] .fin))))))))))))))))))) .e .e)))
theorem pre346_ok : bodyOk pre346 Tryz.f346 = true := by kernel_rfl
noncomputable def pre347 : Tr (Option Pre) := (.n (none) .e (.n (none) .e (.n (none) (.n (some (.sil 0 (.sil 1 (.sil 2 (.sil 3 (.sil 4 (.sil 5 (.sil 6 (.sil 7 (.sil 8 (.sil 9 (.sil 10 (.sil 11 (.sil 12 (.sil 13 (.sil 14 (.sil 15 (.sil 16 (.eff 17 [] (.sil 18 (.eff 19 [] .fin))))))))))))))))))))) .e .e) .e)))
theorem pre347_ok : bodyOk pre347 Tryz.f347 = true := by kernel_rfl
noncomputable def pre348 : Tr (Option Pre) := (.n (none) .e (.n (none) .e (.n (none) (.n (some (.sil 0 (.sil 1 (.sil 2 (.sil 3 (.sil 4 (.sil 5 (.sil 6 (.sil 7 (.sil 8 (.sil 9 (.sil 10 (.sil 11 (.sil 12 (.sil 13 (.sil 14 (.sil 15 (.sil 16 (.eff 17 [] (.sil 18 (.eff 19 [] .fin))))))))))))))))))))) .e .e) .e)))
theorem pre348_ok : bodyOk pre348 Tryz.f348 = true := by kernel_rfl
noncomputable def pre349 : Tr (Option Pre) := .e
theorem pre349_ok : bodyOk pre349 Tryz.f349 = true := by kernel_rfl
noncomputable def pre350 : Tr (Option Pre) := (.n (none) (.n (none) (.n (some (.sil 0 (.sil 1 (.sil 2 (.sil 3 (.sil 4 (.sil 5 (.sil 6 (.sil 7 (.sil 8 (.sil 9 (.sil 10 (.sil 11 (.sil 12 (.eff 13 [] (.sil 14 (.eff 15 [] .fin))))))))))))))))) .e .e) .e) .e)
theorem pre350_ok : bodyOk pre350 Tryz.f350 = true := by kernel_rfl
noncomputable def pre351 : Tr (Option Pre) := (.n (none) (.n (none) (.n (none) (.n (none) .e (.n (some (.sil 0 (.sil 1 (.sil 2 (.sil 3 (.sil 4 (.sil 5 (.sil 6 (.sil 7 (.sil 8 (.sil 9 (.sil 10 (.sil 11 (.sil 12 (.sil 13 (.sil 14 (.eff 15 [] (.sil 16 (.eff 17 [] .fin))))))))))))))))))) .e .e)) (.n (some (.sil 0 (.sil 1 (.sil 2 (.sil 3 (.sil 4 (.sil 5 (.sil 6 (.sil 7 (.sil 8 (.sil 9 (.sil 10 (.sil 11 (.sil 12 (.sil 13 (.sil 14 (.eff 15 [] (.sil 16 (.eff 17 [] .fin))))))))))))))))))) .e .e)) (.n (some (.sil 0 (.sil 1 (.sil 2 (.sil 3 (.sil 4 (.sil 5 (.sil 6 (.sil 7 (.sil 8 (.sil 9 (.sil 10 (.sil 11 (.sil 12 (.eff 13 [] (.sil 14 (.sil 15 .fin))))))))))))))))) (.n (none) (.n (some (.sil 0 (.sil 1 (.sil 2 (.sil 3 (.sil 4 (.sil 5 (.sil 6 (.sil 7 (.sil 8 (.sil 9 (.sil 10 (.sil 11 (.sil 12 (.sil 13 (.sil 14 (.eff 15 [] (.sil 16 (.eff 17 [] .fin))))))))))))))))))) .e .e) .e) .e)) (.n (none) (.n (none) (.n (none) (.n (some (.sil 0 (.sil 1 (.sil 2 (.sil 3 (.sil 4 (.sil 5 (.sil 6 (.sil 7 (.sil 8 (.eff 9 [] (.sil 10 .fin)))))))))))) .e .e) .e) .e) (.n (none) .e (.n (none) (.n (some (.sil 0 (.sil 1 (.sil 2 (.sil 3 (.sil 4 (.sil 5 (.sil 6 (.sil 7 (.sil 8 (.eff 9 [] (.sil 10 .fin)))))))))))) .e .e) .e))))
theorem pre351_ok : bodyOk pre351 Tryz.f351 = true := by kernel_rfl
noncomputable def pre352 : Tr (Option Pre) := .e
theorem pre352_ok : bodyOk pre352 Tryz.f352 = true := by kernel_rfl
noncomputable def pre353 : Tr (Option Pre) := (.n (none) (.n (some (.sil 0 (.sil 1 (.sil 2 (.sil 3 (.sil 4 (.sil 5 (.sil 6 (.sil 7 (.sil 8 (.sil 9 (.sil 10 (.sil 11 (.sil 12 (.eff 13 [] (.sil 14 (.eff 15 [] .fin))))))))))))))))) (.n (some (.sil 0 (.sil 1 (.sil 2 (.sil 3 (.sil 4 (.sil 5 (.sil 6 (.sil 7 (.sil 8 (.sil 9 (.sil 10 (.sil 11 (.eff 12 [] (.sil 13 (.sil 14 .fin)))))))))))))))) .e .e) (.n (some (.sil 0 (.sil 1 (.sil 2 (.sil 3 (.sil 4 (.sil 5 (.sil 6 (.sil 7 (.sil 8 (.sil 9 (.sil 10 (.sil 11 (.eff 12 [] (.sil 13 .fin))))))))))))))) .e .e)) (.n (none) (.n (none) (.n (some (.sil 0 (.sil 1 (.sil 2 (.sil 3 (.sil 4 (.sil 5 (.sil 6 (.sil 7 (.sil 8 (.sil 9 (.sil 10 (.sil 11 (.sil 12 (.eff 13 [] (.sil 14 (.eff 15 [] .fin))))))))))))))))) .e .e) .e) .e))
theorem pre353_ok : bodyOk pre353 Tryz.f353 = true := by kernel_rfl
noncomputable def pre354 : Tr (Option Pre) := (.n (none) (.n (some (.sil 0 (.sil 1 (.sil 2 (.sil 3 (.sil 4 (.sil 5 (.sil 6 (.sil 7 (.sil 8 (.sil 9 (.sil 10 (.sil 11 (.sil 12 (.eff 13 [] (.sil 14 (.eff 15 [] .fin))))))))))))))))) (.n (some (.sil 0 (.sil 1 (.sil 2 (.sil 3 (.sil 4 (.sil 5 (.sil 6 (.sil 7 (.sil 8 (.sil 9 (.sil 10 (.sil 11 (.eff 12 [] (.sil 13 .fin))))))))))))))) (.n (none) (.n (some (.sil 0 (.sil 1 (.sil 2 (.sil 3 (.sil 4 (.sil 5 (.sil 6 (.sil 7 (.sil 8 (.sil 9 (.sil 10 (.sil 11 (.eff 12 [] (.sil 13 (.sil 14 .fin)))))))))))))))) .e .e) .e) .e) (.n (some (.sil 0 (.sil 1 (.sil 2 (.sil 3 (.sil 4 (.sil 5 (.sil 6 (.sil 7 (.sil 8 (.sil 9 (.sil 10 (.sil 11 (.eff 12 [] (.sil 13 (.sil 14 .fin)))))))))))))))) .e (.n (some (.sil 0 (.sil 1 (.sil 2 (.sil 3 (.sil 4 (.sil 5 (.sil 6 (.sil 7 (.sil 8 (.sil 9 (.sil 10 (.sil 11 (.eff 12 [] (.sil 13 .fin))))))))))))))) (.n (some (.sil 0 (.sil 1 (.sil 2 (.sil 3 (.sil 4 (.sil 5 (.sil 6 (.sil 7 (.sil 8 (.sil 9 (.sil 10 (.sil 11 (.sil 12 (.eff 13 [] (.sil 14 (.eff 15 [] .fin))))))))))))))))) .e .e) .e))) (.n (none) (.n (none) (.n (some (.sil 0 (.sil 1 (.sil 2 (.sil 3 (.sil 4 (.sil 5 (.sil 6 (.sil 7 (.sil 8 (.sil 9 (.sil 10 (.sil 11 (.sil 12 (.eff 13 [] (.sil 14 (.eff 15 [] .fin))))))))))))))))) .e .e) .e) (.n (none) (.n (some (.sil 0 (.sil 1 (.sil 2 (.sil 3 (.sil 4 (.sil 5 (.sil 6 (.sil 7 (.sil 8 (.sil 9 (.sil 10 (.sil 11 (.sil 12 (.eff 13 [] (.sil 14 (.eff 15 [] .fin))))))))))))))))) (.n (some (.sil 0 (.sil 1 (.sil 2 (.sil 3 (.sil 4 (.sil 5 (.sil 6 (.sil 7 (.sil 8 (.sil 9 (.sil 10 (.sil 11 (.sil 12 (.eff 13 [] (.sil 14 (.eff 15 [] .fin))))))))))))))))) .e .e) .e) .e)))
theorem pre354_ok : bodyOk pre354 Tryz.f354 = true := by kernel_rfl
noncomputable def pre355 : Tr (Option Pre) := .e
theorem pre355_ok : bodyOk pre355 Tryz.f355 = true := by kernel_rfl
noncomputable def pre356 : Tr (Option Pre) := .e
theorem pre356_ok : bodyOk pre356 Tryz.f356 = true := by kernel_rfl
noncomputable def pre357 : Tr (Option Pre) := .e
theorem pre357_ok : bodyOk pre357 Tryz.f357 = true := by kernel_rfl
noncomputable def pre358 : Tr (Option Pre) := .e
theorem pre358_ok : bodyOk pre358 Tryz.f358 = true := by kernel_rfl
noncomputable def pre359 : Tr (Option Pre) := (.n (none) (.n (none) (.n (some (.sil 0 (.sil 1 (.sil 2 (.sil 3 (.sil 4 (.sil 5 (.sil 6 (.sil 7 (.sil 8 (.sil 9 (.sil 10 (.sil 11 (.sil 12 (.sil 13 (.sil 14 (.sil 15 (.sil 16 (.sil 17 (.eff 18 [] (.sil 19 .fin))))))))))))))))))))) .e .e) (.n (some (.sil 0 (.sil 1 (.sil 2 (.sil 3 (.sil 4 (.sil 5 (.sil 6 (.sil 7 (.sil 8 (.sil 9 (.sil 10 (.sil 11 (.eff 12 [] (.sil 13 .fin))))))))))))))) .e .e)) (.n (none) .e (.n (some (.sil 0 (.sil 1 (.sil 2 (.sil 3 (.sil 4 (.sil 5 (.sil 6 (.sil 7 (.sil 8 (.sil 9 (.sil 10 (.sil 11 (.sil 12 (.sil 13 (.sil 14 (.sil 15 (.sil 16 (.sil 17 (.sil 18 (.sil 19 (.sil 20 (.eff 21 [] (.sil 22 (.eff 23 [] .fin))))))))))))))))))))))))) .e .e)))
theorem pre359_ok : bodyOk pre359 Tryz.f359 = true := by kernel_rfl
noncomputable def pre360 : Tr (Option Pre) := .e
theorem pre360_ok : bodyOk pre360 Tryz.f360 = true := by kernel_rfl
noncomputable def pre361 : Tr (Option Pre) := (.n (none) (.n (some (.sil 0 (.sil 1 (.sil 2 (.sil 3 (.sil 4 (.sil 5 (.sil 6 (.sil 7 (.sil 8 (.eff 9 [] .fin))))))))))) (.n (some (.sil 0 (.sil 1 (.sil 2 (.sil 3 (.sil 4 (.sil 5 (.sil 6 (.sil 7 (.sil 8 (.eff 9 [] .fin))))))))))) .e .e) .e) (.n (some (.sil 0 (.sil 1 (.sil 2 (.sil 3 (.sil 4 (.sil 5 (.sil 6 (.sil 7 (.sil 8 (.eff 9 [] .fin))))))))))) .e .e))
theorem pre361_ok : bodyOk pre361 Tryz.f361 = true := by kernel_rfl
noncomputable def pre362 : Tr (Option Pre) := .e
theorem pre362_ok : bodyOk pre362 Tryz.f362 = true := by kernel_rfl
noncomputable def pre363 : Tr (Option Pre) := .e
theorem pre363_ok : bodyOk pre363 Tryz.f363 = true := by kernel_rfl
noncomputable def pre364 : Tr (Option Pre) := .e
theorem pre364_ok : bodyOk pre364 Tryz.f364 = true := by kernel_rfl
noncomputable def pre365 : Tr (Option Pre) := (.n (none) (.n (some (.sil 0 (.sil 1 (.sil 2 (.sil 3 (.sil 4 (.sil 5 (.sil 6 (.sil 7 (.eff 8 [] .fin)))))))))) .e .e) .e)
theorem pre365_ok : bodyOk pre365 Tryz.f365 = true := by kernel_rfl
noncomputable def fnT : Tr (Option (Func × Tr (Option Pre))) := (.n (none) (.n (none) (.n (none) (.n (none) (.n (none) (.n (none) (.n (none) (.n (some (Tryz.f127, pre127)) .e .e) (.n (some (Tryz.f191, pre191)) (.n (some (Tryz.f319, pre319)) .e .e) .e)) (.n (some (Tryz.f95, pre95)) (.n (some (Tryz.f159, pre159)) (.n (some (Tryz.f287, pre287)) .e .e) .e) (.n (some (Tryz.f223, pre223)) (.n (some (Tryz.f351, pre351)) .e .e) .e))) (.n (some (Tryz.f47, pre47)) (.n (some (Tryz.f79, pre79)) (.n (some (Tryz.f143, pre143)) (.n (some (Tryz.f271, pre271)) .e .e) .e) (.n (some (Tryz.f207, pre207)) (.n (some (Tryz.f335, pre335)) .e .e) .e)) (.n (some (Tryz.f111, pre111)) (.n (some (Tryz.f175, pre175)) (.n (some (Tryz.f303, pre303)) .e .e) .e) (.n (some (Tryz.f239, pre239)) .e .e)))) (.n (some (Tryz.f23, pre23)) (.n (some (Tryz.f39, pre39)) (.n (some (Tryz.f71, pre71)) (.n (some (Tryz.f135, pre135)) (.n (some (Tryz.f263, pre263)) .e .e) .e) (.n (some (Tryz.f199, pre199)) (.n (some (Tryz.f327, pre327)) .e .e) .e)) (.n (some (Tryz.f103, pre103)) (.n (some (Tryz.f167, pre167)) (.n (some (Tryz.f295, pre295)) .e .e) .e) (.n (some (Tryz.f231, pre231)) (.n (some (Tryz.f359, pre359)) .e .e) .e))) (.n (some (Tryz.f55, pre55)) (.n (some (Tryz.f87, pre87)) (.n (some (Tryz.f151, pre151)) (.n (some (Tryz.f279, pre279)) .e .e) .e) (.n (some (Tryz.f215, pre215)) (.n (some (Tryz.f343, pre343)) .e .e) .e)) (.n (some (Tryz.f119, pre119)) (.n (some (Tryz.f183, pre183)) (.n (some (Tryz.f311, pre311)) .e .e) .e) (.n (some (Tryz.f247, pre247)) .e .e))))) (.n (some (Tryz.f11, pre11)) (.n (some (Tryz.f19, pre19)) (.n (none) (.n (some (Tryz.f67, pre67)) (.n (some (Tryz.f131, pre131)) (.n (some (Tryz.f259, pre259)) .e .e) .e) (.n (some (Tryz.f195, pre195)) (.n (some (Tryz.f323, pre323)) .e .e) .e)) (.n (some (Tryz.f99, pre99)) .e (.n (some (Tryz.f227, pre227)) (.n (some (Tryz.f355, pre355)) .e .e) .e))) (.n (none) (.n (some (Tryz.f83, pre83)) (.n (some (Tryz.f147, pre147)) (.n (some (Tryz.f275, pre275)) .e .e) .e) (.n (some (Tryz.f211, pre211)) (.n (some (Tryz.f339, pre339)) .e .e) .e)) (.n (some (Tryz.f115, pre115)) (.n (some (Tryz.f179, pre179)) (.n (some (Tryz.f307, pre307)) .e .e) .e) (.n (some (Tryz.f243, pre243)) .e .e)))) (.n (some (Tryz.f27, pre27)) (.n (some (Tryz.f43, pre43)) (.n (some (Tryz.f75, pre75)) (.n (some (Tryz.f139, pre139)) (.n (some (Tryz.f267, pre267)) .e .e) .e) (.n (some (Tryz.f203, pre203)) .e .e)) (.n (some (Tryz.f107, pre107)) (.n (some (Tryz.f171, pre171)) (.n (some (Tryz.f299, pre299)) .e .e) .e) (.n (some (Tryz.f235, pre235)) (.n (some (Tryz.f363, pre363)) .e .e) .e))) (.n (none) (.n (some (Tryz.f91, pre91)) (.n (some (Tryz.f155, pre155)) (.n (some (Tryz.f283, pre283)) .e .e) .e) (.n (some (Tryz.f219, pre219)) (.n (some (Tryz.f347, pre347)) .e .e) .e)) (.n (some (Tryz.f123, pre123)) (.n (some (Tryz.f187, pre187)) .e .e) (.n (some (Tryz.f251, pre251)) .e .e)))))) (.n (none) (.n (none) (.n (some (Tryz.f17, pre17)) (.n (none) (.n (some (Tryz.f65, pre65)) (.n (some (Tryz.f129, pre129)) .e .e) (.n (some (Tryz.f193, pre193)) (.n (some (Tryz.f321, pre321)) .e .e) .e)) (.n (some (Tryz.f97, pre97)) (.n (some (Tryz.f161, pre161)) .e .e) (.n (some (Tryz.f225, pre225)) (.n (some (Tryz.f353, pre353)) .e .e) .e))) (.n (some (Tryz.f49, pre49)) (.n (some (Tryz.f81, pre81)) (.n (some (Tryz.f145, pre145)) (.n (some (Tryz.f273, pre273)) .e .e) .e) (.n (some (Tryz.f209, pre209)) .e .e)) (.n (some (Tryz.f113, pre113)) (.n (some (Tryz.f177, pre177)) (.n (some (Tryz.f305, pre305)) .e .e) .e) (.n (some (Tryz.f241, pre241)) .e .e)))) (.n (some (Tryz.f25, pre25)) (.n (none) (.n (some (Tryz.f73, pre73)) (.n (none) (.n (some (Tryz.f265, pre265)) .e .e) .e) (.n (some (Tryz.f201, pre201)) (.n (some (Tryz.f329, pre329)) .e .e) .e)) (.n (some (Tryz.f105, pre105)) (.n (some (Tryz.f169, pre169)) (.n (some (Tryz.f297, pre297)) .e .e) .e) (.n (some (Tryz.f233, pre233)) (.n (some (Tryz.f361, pre361)) .e .e) .e))) (.n (none) (.n (some (Tryz.f89, pre89)) (.n (some (Tryz.f153, pre153)) (.n (some (Tryz.f281, pre281)) .e .e) .e) (.n (some (Tryz.f217, pre217)) .e .e)) (.n (none) (.n (some (Tryz.f185, pre185)) (.n (some (Tryz.f313, pre313)) .e .e) .e) (.n (some (Tryz.f249, pre249)) .e .e))))) (.n (none) (.n (some (Tryz.f21, pre21)) (.n (some (Tryz.f37, pre37)) (.n (some (Tryz.f69, pre69)) (.n (some (Tryz.f133, pre133)) (.n (some (Tryz.f261, pre261)) .e .e) .e) (.n (some (Tryz.f197, pre197)) (.n (some (Tryz.f325, pre325)) .e .e) .e)) (.n (some (Tryz.f101, pre101)) (.n (some (Tryz.f165, pre165)) (.n (some (Tryz.f293, pre293)) .e .e) .e) (.n (some (Tryz.f229, pre229)) (.n (some (Tryz.f357, pre357)) .e .e) .e))) (.n (some (Tryz.f53, pre53)) (.n (some (Tryz.f85, pre85)) (.n (some (Tryz.f149, pre149)) (.n (some (Tryz.f277, pre277)) .e .e) .e) (.n (none) (.n (some (Tryz.f341, pre341)) .e .e) .e)) (.n (some (Tryz.f117, pre117)) (.n (some (Tryz.f181, pre181)) (.n (some (Tryz.f309, pre309)) .e .e) .e) (.n (some (Tryz.f245, pre245)) .e .e)))) (.n (some (Tryz.f29, pre29)) (.n (some (Tryz.f45, pre45)) (.n (some (Tryz.f77, pre77)) (.n (some (Tryz.f141, pre141)) (.n (some (Tryz.f269, pre269)) .e .e) .e) (.n (some (Tryz.f205, pre205)) (.n (some (Tryz.f333, pre333)) .e .e) .e)) (.n (some (Tryz.f109, pre109)) (.n (some (Tryz.f173, pre173)) (.n (some (Tryz.f301, pre301)) .e .e) .e) (.n (some (Tryz.f237, pre237)) (.n (some (Tryz.f365, pre365)) .e .e) .e))) (.n (none) (.n (some (Tryz.f93, pre93)) (.n (some (Tryz.f157, pre157)) (.n (some (Tryz.f285, pre285)) .e .e) .e) (.n (some (Tryz.f221, pre221)) (.n (some (Tryz.f349, pre349)) .e .e) .e)) (.n (some (Tryz.f125, pre125)) (.n (some (Tryz.f189, pre189)) .e .e) (.n (some (Tryz.f253, pre253)) .e .e))))))) (.n (none) (.n (none) (.n (some (Tryz.f8, pre8)) (.n (none) (.n (some (Tryz.f32, pre32)) (.n (some (Tryz.f64, pre64)) (.n (some (Tryz.f128, pre128)) .e .e) (.n (some (Tryz.f192, pre192)) (.n (some (Tryz.f320, pre320)) .e .e) .e)) (.n (some (Tryz.f96, pre96)) (.n (some (Tryz.f160, pre160)) .e .e) (.n (some (Tryz.f224, pre224)) (.n (some (Tryz.f352, pre352)) .e .e) .e))) (.n (none) (.n (some (Tryz.f80, pre80)) (.n (some (Tryz.f144, pre144)) (.n (some (Tryz.f272, pre272)) .e .e) .e) (.n (some (Tryz.f208, pre208)) .e .e)) (.n (some (Tryz.f112, pre112)) (.n (some (Tryz.f176, pre176)) (.n (some (Tryz.f304, pre304)) .e .e) .e) (.n (some (Tryz.f240, pre240)) .e .e)))) (.n (some (Tryz.f24, pre24)) (.n (none) (.n (some (Tryz.f72, pre72)) (.n (none) (.n (some (Tryz.f264, pre264)) .e .e) .e) (.n (some (Tryz.f200, pre200)) (.n (some (Tryz.f328, pre328)) .e .e) .e)) (.n (some (Tryz.f104, pre104)) (.n (some (Tryz.f168, pre168)) (.n (some (Tryz.f296, pre296)) .e .e) .e) (.n (some (Tryz.f232, pre232)) (.n (some (Tryz.f360, pre360)) .e .e) .e))) (.n (none) (.n (some (Tryz.f88, pre88)) (.n (some (Tryz.f152, pre152)) (.n (some (Tryz.f280, pre280)) .e .e) .e) (.n (some (Tryz.f216, pre216)) .e .e)) (.n (some (Tryz.f120, pre120)) (.n (some (Tryz.f184, pre184)) (.n (some (Tryz.f312, pre312)) .e .e) .e) (.n (some (Tryz.f248, pre248)) .e .e))))) (.n (none) (.n (none) (.n (some (Tryz.f36, pre36)) (.n (some (Tryz.f68, pre68)) (.n (some (Tryz.f132, pre132)) (.n (some (Tryz.f260, pre260)) .e .e) .e) (.n (some (Tryz.f196, pre196)) (.n (some (Tryz.f324, pre324)) .e .e) .e)) (.n (some (Tryz.f100, pre100)) (.n (some (Tryz.f164, pre164)) (.n (some (Tryz.f292, pre292)) .e .e) .e) (.n (some (Tryz.f228, pre228)) (.n (some (Tryz.f356, pre356)) .e .e) .e))) (.n (none) (.n (none) (.n (some (Tryz.f148, pre148)) (.n (some (Tryz.f276, pre276)) .e .e) .e) (.n (none) (.n (some (Tryz.f340, pre340)) .e .e) .e)) (.n (some (Tryz.f116, pre116)) (.n (none) (.n (some (Tryz.f308, pre308)) .e .e) .e) (.n (some (Tryz.f244, pre244)) .e .e)))) (.n (some (Tryz.f28, pre28)) (.n (none) (.n (some (Tryz.f76, pre76)) (.n (some (Tryz.f140, pre140)) (.n (some (Tryz.f268, pre268)) .e .e) .e) (.n (some (Tryz.f204, pre204)) (.n (some (Tryz.f332, pre332)) .e .e) .e)) (.n (some (Tryz.f108, pre108)) (.n (some (Tryz.f172, pre172)) (.n (some (Tryz.f300, pre300)) .e .e) .e) (.n (none) (.n (some (Tryz.f364, pre364)) .e .e) .e))) (.n (none) (.n (some (Tryz.f92, pre92)) (.n (some (Tryz.f156, pre156)) (.n (some (Tryz.f284, pre284)) .e .e) .e) (.n (some (Tryz.f220, pre220)) (.n (some (Tryz.f348, pre348)) .e .e) .e)) (.n (some (Tryz.f124, pre124)) (.n (some (Tryz.f188, pre188)) .e .e) (.n (some (Tryz.f252, pre252)) .e .e)))))) (.n (none) (.n (none) (.n (none) (.n (none) (.n (some (Tryz.f66, pre66)) (.n (some (Tryz.f130, pre130)) .e .e) (.n (some (Tryz.f194, pre194)) (.n (some (Tryz.f322, pre322)) .e .e) .e)) (.n (none) .e (.n (some (Tryz.f226, pre226)) (.n (some (Tryz.f354, pre354)) .e .e) .e))) (.n (some (Tryz.f50, pre50)) (.n (some (Tryz.f82, pre82)) (.n (some (Tryz.f146, pre146)) (.n (some (Tryz.f274, pre274)) .e .e) .e) (.n (some (Tryz.f210, pre210)) (.n (some (Tryz.f338, pre338)) .e .e) .e)) (.n (some (Tryz.f114, pre114)) (.n (some (Tryz.f178, pre178)) (.n (some (Tryz.f306, pre306)) .e .e) .e) (.n (some (Tryz.f242, pre242)) .e .e)))) (.n (some (Tryz.f26, pre26)) (.n (some (Tryz.f42, pre42)) (.n (some (Tryz.f74, pre74)) (.n (none) (.n (some (Tryz.f266, pre266)) .e .e) .e) (.n (some (Tryz.f202, pre202)) .e .e)) (.n (some (Tryz.f106, pre106)) (.n (some (Tryz.f170, pre170)) (.n (some (Tryz.f298, pre298)) .e .e) .e) (.n (none) (.n (some (Tryz.f362, pre362)) .e .e) .e))) (.n (none) (.n (some (Tryz.f90, pre90)) (.n (some (Tryz.f154, pre154)) (.n (some (Tryz.f282, pre282)) .e .e) .e) (.n (some (Tryz.f218, pre218)) (.n (some (Tryz.f346, pre346)) .e .e) .e)) (.n (none) (.n (some (Tryz.f186, pre186)) .e .e) (.n (some (Tryz.f250, pre250)) .e .e))))) (.n (none) (.n (some (Tryz.f22, pre22)) (.n (none) (.n (some (Tryz.f70, pre70)) (.n (some (Tryz.f134, pre134)) (.n (some (Tryz.f262, pre262)) .e .e) .e) (.n (some (Tryz.f198, pre198)) (.n (some (Tryz.f326, pre326)) .e .e) .e)) (.n (some (Tryz.f102, pre102)) (.n (some (Tryz.f166, pre166)) (.n (some (Tryz.f294, pre294)) .e .e) .e) (.n (some (Tryz.f230, pre230)) (.n (some (Tryz.f358, pre358)) .e .e) .e))) (.n (some (Tryz.f54, pre54)) (.n (some (Tryz.f86, pre86)) (.n (some (Tryz.f150, pre150)) (.n (some (Tryz.f278, pre278)) .e .e) .e) (.n (some (Tryz.f214, pre214)) (.n (some (Tryz.f342, pre342)) .e .e) .e)) (.n (some (Tryz.f118, pre118)) (.n (some (Tryz.f182, pre182)) (.n (some (Tryz.f310, pre310)) .e .e) .e) (.n (some (Tryz.f246, pre246)) .e .e)))) (.n (none) (.n (some (Tryz.f46, pre46)) (.n (some (Tryz.f78, pre78)) (.n (some (Tryz.f142, pre142)) (.n (some (Tryz.f270, pre270)) .e .e) .e) (.n (some (Tryz.f206, pre206)) (.n (some (Tryz.f334, pre334)) .e .e) .e)) (.n (some (Tryz.f110, pre110)) (.n (some (Tryz.f174, pre174)) (.n (some (Tryz.f302, pre302)) .e .e) .e) (.n (some (Tryz.f238, pre238)) .e .e))) (.n (none) (.n (some (Tryz.f94, pre94)) (.n (some (Tryz.f158, pre158)) (.n (some (Tryz.f286, pre286)) .e .e) .e) (.n (some (Tryz.f222, pre222)) (.n (some (Tryz.f350, pre350)) .e .e) .e)) (.n (some (Tryz.f126, pre126)) (.n (some (Tryz.f190, pre190)) .e .e) (.n (some (Tryz.f254, pre254)) .e .e))))))))
theorem fnT_ok : AllT (fun k p => Tryz.prog.funcs[k]? = some p.1 ∧ (p.1.name == "runtime.NumGoroutine") = false ∧ ∀ c, p.1.body = some c → drawsOk p.2 c = true) fnT (fun i => i) := ⟨trivial, ⟨trivial, ⟨trivial, ⟨trivial, ⟨trivial, ⟨trivial, ⟨trivial, ⟨⟨Tryz.func127, by decide, bodyOk.out pre127_ok⟩, trivial, trivial⟩, ⟨⟨Tryz.func191, by decide, bodyOk.out pre191_ok⟩, ⟨⟨Tryz.func319, by decide, bodyOk.out pre319_ok⟩, trivial, trivial⟩, trivial⟩⟩, ⟨⟨Tryz.func95, by decide, bodyOk.out pre95_ok⟩, ⟨⟨Tryz.func159, by decide, bodyOk.out pre159_ok⟩, ⟨⟨Tryz.func287, by decide, bodyOk.out pre287_ok⟩, trivial, trivial⟩, trivial⟩, ⟨⟨Tryz.func223, by decide, bodyOk.out pre223_ok⟩, ⟨⟨Tryz.func351, by decide, bodyOk.out pre351_ok⟩, trivial, trivial⟩, trivial⟩⟩⟩, ⟨⟨Tryz.func47, by decide, bodyOk.out pre47_ok⟩, ⟨⟨Tryz.func79, by decide, bodyOk.out pre79_ok⟩, ⟨⟨Tryz.func143, by decide, bodyOk.out pre143_ok⟩, ⟨⟨Tryz.func271, by decide, bodyOk.out pre271_ok⟩, trivial, trivial⟩, trivial⟩, ⟨⟨Tryz.func207, by decide, bodyOk.out pre207_ok⟩, ⟨⟨Tryz.func335, by decide, bodyOk.out pre335_ok⟩, trivial, trivial⟩, trivial⟩⟩, ⟨⟨Tryz.func111, by decide, bodyOk.out pre111_ok⟩, ⟨⟨Tryz.func175, by decide, bodyOk.out pre175_ok⟩, ⟨⟨Tryz.func303, by decide, bodyOk.out pre303_ok⟩, trivial, trivial⟩, trivial⟩, ⟨⟨Tryz.func239, by decide, bodyOk.out pre239_ok⟩, trivial, trivial⟩⟩⟩⟩, ⟨⟨Tryz.func23, by decide, bodyOk.out pre23_ok⟩, ⟨⟨Tryz.func39, by decide, bodyOk.out pre39_ok⟩, ⟨⟨Tryz.func71, by decide, bodyOk.out pre71_ok⟩, ⟨⟨Tryz.func135, by decide, bodyOk.out pre135_ok⟩, ⟨⟨Tryz.func263, by decide, bodyOk.out pre263_ok⟩, trivial, trivial⟩, trivial⟩, ⟨⟨Tryz.func199, by decide, bodyOk.out pre199_ok⟩, ⟨⟨Tryz.func327, by decide, bodyOk.out pre327_ok⟩, trivial, trivial⟩, trivial⟩⟩, ⟨⟨Tryz.func103, by decide, bodyOk.out pre103_ok⟩, ⟨⟨Tryz.func167, by decide, bodyOk.out pre167_ok⟩, ⟨⟨Tryz.func295, by decide, bodyOk.out pre295_ok⟩, trivial, trivial⟩, trivial⟩, ⟨⟨Tryz.func231, by decide, bodyOk.out pre231_ok⟩, ⟨⟨Tryz.func359, by decide, bodyOk.out pre359_ok⟩, trivial, trivial⟩, trivial⟩⟩⟩, ⟨⟨Tryz.func55, by decide, bodyOk.out pre55_ok⟩, ⟨⟨Tryz.func87, by decide, bodyOk.out pre87_ok⟩, ⟨⟨Tryz.func151, by decide, bodyOk.out pre151_ok⟩, ⟨⟨Tryz.func279, by decide, bodyOk.out pre279_ok⟩, trivial, trivial⟩, trivial⟩, ⟨⟨Tryz.func215, by decide, bodyOk.out pre215_ok⟩, ⟨⟨Tryz.func343, by decide, bodyOk.out pre343_ok⟩, trivial, trivial⟩, trivial⟩⟩, ⟨⟨Tryz.func119, by decide, bodyOk.out pre119_ok⟩, ⟨⟨Tryz.func183, by decide, bodyOk.out pre183_ok⟩, ⟨⟨Tryz.func311, by decide, bodyOk.out pre311_ok⟩, trivial, trivial⟩, trivial⟩, ⟨⟨Tryz.func247, by decide, bodyOk.out pre247_ok⟩, trivial, trivial⟩⟩⟩⟩⟩, ⟨⟨Tryz.func11, by decide, bodyOk.out pre11_ok⟩, ⟨⟨Tryz.func19, by decide, bodyOk.out pre19_ok⟩, ⟨trivial, ⟨⟨Tryz.func67, by decide, bodyOk.out pre67_ok⟩, ⟨⟨Tryz.func131, by decide, bodyOk.out pre131_ok⟩, ⟨⟨Tryz.func259, by decide, bodyOk.out pre259_ok⟩, trivial, trivial⟩, trivial⟩, ⟨⟨Tryz.func195, by decide, bodyOk.out pre195_ok⟩, ⟨⟨Tryz.func323, by decide, bodyOk.out pre323_ok⟩, trivial, trivial⟩, trivial⟩⟩, ⟨⟨Tryz.func99, by decide, bodyOk.out pre99_ok⟩, trivial, ⟨⟨Tryz.func227, by decide, bodyOk.out pre227_ok⟩, ⟨⟨Tryz.func355, by decide, bodyOk.out pre355_ok⟩, trivial, trivial⟩, trivial⟩⟩⟩, ⟨trivial, ⟨⟨Tryz.func83, by decide, bodyOk.out pre83_ok⟩, ⟨⟨Tryz.func147, by decide, bodyOk.out pre147_ok⟩, ⟨⟨Tryz.func275, by decide, bodyOk.out pre275_ok⟩, trivial, trivial⟩, trivial⟩, ⟨⟨Tryz.func211, by decide, bodyOk.out pre211_ok⟩, ⟨⟨Tryz.func339, by decide, bodyOk.out pre339_ok⟩, trivial, trivial⟩, trivial⟩⟩, ⟨⟨Tryz.func115, by decide, bodyOk.out pre115_ok⟩, ⟨⟨Tryz.func179, by decide, bodyOk.out pre179_ok⟩, ⟨⟨Tryz.func307, by decide, bodyOk.out pre307_ok⟩, trivial, trivial⟩, trivial⟩, ⟨⟨Tryz.func243, by decide, bodyOk.out pre243_ok⟩, trivial, trivial⟩⟩⟩⟩, ⟨⟨Tryz.func27, by decide, bodyOk.out pre27_ok⟩, ⟨⟨Tryz.func43, by decide, bodyOk.out pre43_ok⟩, ⟨⟨Tryz.func75, by decide, bodyOk.out pre75_ok⟩, ⟨⟨Tryz.func139, by decide, bodyOk.out pre139_ok⟩, ⟨⟨Tryz.func267, by decide, bodyOk.out pre267_ok⟩, trivial, trivial⟩, trivial⟩, ⟨⟨Tryz.func203, by decide, bodyOk.out pre203_ok⟩, trivial, trivial⟩⟩, ⟨⟨Tryz.func107, by decide, bodyOk.out pre107_ok⟩, ⟨⟨Tryz.func171, by decide, bodyOk.out pre171_ok⟩, ⟨⟨Tryz.func299, by decide, bodyOk.out pre299_ok⟩, trivial, trivial⟩, trivial⟩, ⟨⟨Tryz.func235, by decide, bodyOk.out pre235_ok⟩, ⟨⟨Tryz.func363, by decide, bodyOk.out pre363_ok⟩, trivial, trivial⟩, trivial⟩⟩⟩, ⟨trivial, ⟨⟨Tryz.func91, by decide, bodyOk.out pre91_ok⟩, ⟨⟨Tryz.func155, by decide, bodyOk.out pre155_ok⟩, ⟨⟨Tryz.func283, by decide, bodyOk.out pre283_ok⟩, trivial, trivial⟩, trivial⟩, ⟨⟨Tryz.func219, by decide, bodyOk.out pre219_ok⟩, ⟨⟨Tryz.func347, by decide, bodyOk.out pre347_ok⟩, trivial, trivial⟩, trivial⟩⟩, ⟨⟨Tryz.func123, by decide, bodyOk.out pre123_ok⟩, ⟨⟨Tryz.func187, by decide, bodyOk.out pre187_ok⟩, trivial, trivial⟩, ⟨⟨Tryz.func251, by decide, bodyOk.out pre251_ok⟩, trivial, trivial⟩⟩⟩⟩⟩⟩, ⟨trivial, ⟨trivial, ⟨⟨Tryz.func17, by decide, bodyOk.out pre17_ok⟩, ⟨trivial, ⟨⟨Tryz.func65, by decide, bodyOk.out pre65_ok⟩, ⟨⟨Tryz.func129, by decide, bodyOk.out pre129_ok⟩, trivial, trivial⟩, ⟨⟨Tryz.func193, by decide, bodyOk.out pre193_ok⟩, ⟨⟨Tryz.func321, by decide, bodyOk.out pre321_ok⟩, trivial, trivial⟩, trivial⟩⟩, ⟨⟨Tryz.func97, by decide, bodyOk.out pre97_ok⟩, ⟨⟨Tryz.func161, by decide, bodyOk.out pre161_ok⟩, trivial, trivial⟩, ⟨⟨Tryz.func225, by decide, bodyOk.out pre225_ok⟩, ⟨⟨Tryz.func353, by decide, bodyOk.out pre353_ok⟩, trivial, trivial⟩, trivial⟩⟩⟩, ⟨⟨Tryz.func49, by decide, bodyOk.out pre49_ok⟩, ⟨⟨Tryz.func81, by decide, bodyOk.out pre81_ok⟩, ⟨⟨Tryz.func145, by decide, bodyOk.out pre145_ok⟩, ⟨⟨Tryz.func273, by decide, bodyOk.out pre273_ok⟩, trivial, trivial⟩, trivial⟩, ⟨⟨Tryz.func209, by decide, bodyOk.out pre209_ok⟩, trivial, trivial⟩⟩, ⟨⟨Tryz.func113, by decide, bodyOk.out pre113_ok⟩, ⟨⟨Tryz.func177, by decide, bodyOk.out pre177_ok⟩, ⟨⟨Tryz.func305, by decide, bodyOk.out pre305_ok⟩, trivial, trivial⟩, trivial⟩, ⟨⟨Tryz.func241, by decide, bodyOk.out pre241_ok⟩, trivial, trivial⟩⟩⟩⟩, ⟨⟨Tryz.func25, by decide, bodyOk.out pre25_ok⟩, ⟨trivial, ⟨⟨Tryz.func73, by decide, bodyOk.out pre73_ok⟩, ⟨trivial, ⟨⟨Tryz.func265, by decide, bodyOk.out pre265_ok⟩, trivial, trivial⟩, trivial⟩, ⟨⟨Tryz.func201, by decide, bodyOk.out pre201_ok⟩, ⟨⟨Tryz.func329, by decide, bodyOk.out pre329_ok⟩, trivial, trivial⟩, trivial⟩⟩, ⟨⟨Tryz.func105, by decide, bodyOk.out pre105_ok⟩, ⟨⟨Tryz.func169, by decide, bodyOk.out pre169_ok⟩, ⟨⟨Tryz.func297, by decide, bodyOk.out pre297_ok⟩, trivial, trivial⟩, trivial⟩, ⟨⟨Tryz.func233, by decide, bodyOk.out pre233_ok⟩, ⟨⟨Tryz.func361, by decide, bodyOk.out pre361_ok⟩, trivial, trivial⟩, trivial⟩⟩⟩, ⟨trivial, ⟨⟨Tryz.func89, by decide, bodyOk.out pre89_ok⟩, ⟨⟨Tryz.func153, by decide, bodyOk.out pre153_ok⟩, ⟨⟨Tryz.func281, by decide, bodyOk.out pre281_ok⟩, trivial, trivial⟩, trivial⟩, ⟨⟨Tryz.func217, by decide, bodyOk.out pre217_ok⟩, trivial, trivial⟩⟩, ⟨trivial, ⟨⟨Tryz.func185, by decide, bodyOk.out pre185_ok⟩, ⟨⟨Tryz.func313, by decide, bodyOk.out pre313_ok⟩, trivial, trivial⟩, trivial⟩, ⟨⟨Tryz.func249, by decide, bodyOk.out pre249_ok⟩, trivial, trivial⟩⟩⟩⟩⟩, ⟨trivial, ⟨⟨Tryz.func21, by decide, bodyOk.out pre21_ok⟩, ⟨⟨Tryz.func37, by decide, bodyOk.out pre37_ok⟩, ⟨⟨Tryz.func69, by decide, bodyOk.out pre69_ok⟩, ⟨⟨Tryz.func133, by decide, bodyOk.out pre133_ok⟩, ⟨⟨Tryz.func261, by decide, bodyOk.out pre261_ok⟩, trivial, trivial⟩, trivial⟩, ⟨⟨Tryz.func197, by decide, bodyOk.out pre197_ok⟩, ⟨⟨Tryz.func325, by decide, bodyOk.out pre325_ok⟩, trivial, trivial⟩, trivial⟩⟩, ⟨⟨Tryz.func101, by decide, bodyOk.out pre101_ok⟩, ⟨⟨Tryz.func165, by decide, bodyOk.out pre165_ok⟩, ⟨⟨Tryz.func293, by decide, bodyOk.out pre293_ok⟩, trivial, trivial⟩, trivial⟩, ⟨⟨Tryz.func229, by decide, bodyOk.out pre229_ok⟩, ⟨⟨Tryz.func357, by decide, bodyOk.out pre357_ok⟩, trivial, trivial⟩, trivial⟩⟩⟩, ⟨⟨Tryz.func53, by decide, bodyOk.out pre53_ok⟩, ⟨⟨Tryz.func85, by decide, bodyOk.out pre85_ok⟩, ⟨⟨Tryz.func149, by decide, bodyOk.out pre149_ok⟩, ⟨⟨Tryz.func277, by decide, bodyOk.out pre277_ok⟩, trivial, trivial⟩, trivial⟩, ⟨trivial, ⟨⟨Tryz.func341, by decide, bodyOk.out pre341_ok⟩, trivial, trivial⟩, trivial⟩⟩, ⟨⟨Tryz.func117, by decide, bodyOk.out pre117_ok⟩, ⟨⟨Tryz.func181, by decide, bodyOk.out pre181_ok⟩, ⟨⟨Tryz.func309, by decide, bodyOk.out pre309_ok⟩, trivial, trivial⟩, trivial⟩, ⟨⟨Tryz.func245, by decide, bodyOk.out pre245_ok⟩, trivial, trivial⟩⟩⟩⟩, ⟨⟨Tryz.func29, by decide, bodyOk.out pre29_ok⟩, ⟨⟨Tryz.func45, by decide, bodyOk.out pre45_ok⟩, ⟨⟨Tryz.func77, by decide, bodyOk.out pre77_ok⟩, ⟨⟨Tryz.func141, by decide, bodyOk.out pre141_ok⟩, ⟨⟨Tryz.func269, by decide, bodyOk.out pre269_ok⟩, trivial, trivial⟩, trivial⟩, ⟨⟨Tryz.func205, by decide, bodyOk.out pre205_ok⟩, ⟨⟨Tryz.func333, by decide, bodyOk.out pre333_ok⟩, trivial, trivial⟩, trivial⟩⟩, ⟨⟨Tryz.func109, by decide, bodyOk.out pre109_ok⟩, ⟨⟨Tryz.func173, by decide, bodyOk.out pre173_ok⟩, ⟨⟨Tryz.func301, by decide, bodyOk.out pre301_ok⟩, trivial, trivial⟩, trivial⟩, ⟨⟨Tryz.func237, by decide, bodyOk.out pre237_ok⟩, ⟨⟨Tryz.func365, by decide, bodyOk.out pre365_ok⟩, trivial, trivial⟩, trivial⟩⟩⟩, ⟨trivial, ⟨⟨Tryz.func93, by decide, bodyOk.out pre93_ok⟩, ⟨⟨Tryz.func157, by decide, bodyOk.out pre157_ok⟩, ⟨⟨Tryz.func285, by decide, bodyOk.out pre285_ok⟩, trivial, trivial⟩, trivial⟩, ⟨⟨Tryz.func221, by decide, bodyOk.out pre221_ok⟩, ⟨⟨Tryz.func349, by decide, bodyOk.out pre349_ok⟩, trivial, trivial⟩, trivial⟩⟩, ⟨⟨Tryz.func125, by decide, bodyOk.out pre125_ok⟩, ⟨⟨Tryz.func189, by decide, bodyOk.out pre189_ok⟩, trivial, trivial⟩, ⟨⟨Tryz.func253, by decide, bodyOk.out pre253_ok⟩, trivial, trivial⟩⟩⟩⟩⟩⟩⟩, ⟨trivial, ⟨trivial, ⟨⟨Tryz.func8, by decide, bodyOk.out pre8_ok⟩, ⟨trivial, ⟨⟨Tryz.func32, by decide, bodyOk.out pre32_ok⟩, ⟨⟨Tryz.func64, by decide, bodyOk.out pre64_ok⟩, ⟨⟨Tryz.func128, by decide, bodyOk.out pre128_ok⟩, trivial, trivial⟩, ⟨⟨Tryz.func192, by decide, bodyOk.out pre192_ok⟩, ⟨⟨Tryz.func320, by decide, bodyOk.out pre320_ok⟩, trivial, trivial⟩, trivial⟩⟩, ⟨⟨Tryz.func96, by decide, bodyOk.out pre96_ok⟩, ⟨⟨Tryz.func160, by decide, bodyOk.out pre160_ok⟩, trivial, trivial⟩, ⟨⟨Tryz.func224, by decide, bodyOk.out pre224_ok⟩, ⟨⟨Tryz.func352, by decide, bodyOk.out pre352_ok⟩, trivial, trivial⟩, trivial⟩⟩⟩, ⟨trivial, ⟨⟨Tryz.func80, by decide, bodyOk.out pre80_ok⟩, ⟨⟨Tryz.func144, by decide, bodyOk.out pre144_ok⟩, ⟨⟨Tryz.func272, by decide, bodyOk.out pre272_ok⟩, trivial, trivial⟩, trivial⟩, ⟨⟨Tryz.func208, by decide, bodyOk.out pre208_ok⟩, trivial, trivial⟩⟩, ⟨⟨Tryz.func112, by decide, bodyOk.out pre112_ok⟩, ⟨⟨Tryz.func176, by decide, bodyOk.out pre176_ok⟩, ⟨⟨Tryz.func304, by decide, bodyOk.out pre304_ok⟩, trivial, trivial⟩, trivial⟩, ⟨⟨Tryz.func240, by decide, bodyOk.out pre240_ok⟩, trivial, trivial⟩⟩⟩⟩, ⟨⟨Tryz.func24, by decide, bodyOk.out pre24_ok⟩, ⟨trivial, ⟨⟨Tryz.func72, by decide, bodyOk.out pre72_ok⟩, ⟨trivial, ⟨⟨Tryz.func264, by decide, bodyOk.out pre264_ok⟩, trivial, trivial⟩, trivial⟩, ⟨⟨Tryz.func200, by decide, bodyOk.out pre200_ok⟩, ⟨⟨Tryz.func328, by decide, bodyOk.out pre328_ok⟩, trivial, trivial⟩, trivial⟩⟩, ⟨⟨Tryz.func104, by decide, bodyOk.out pre104_ok⟩, ⟨⟨Tryz.func168, by decide, bodyOk.out pre168_ok⟩, ⟨⟨Tryz.func296, by decide, bodyOk.out pre296_ok⟩, trivial, trivial⟩, trivial⟩, ⟨⟨Tryz.func232, by decide, bodyOk.out pre232_ok⟩, ⟨⟨Tryz.func360, by decide, bodyOk.out pre360_ok⟩, trivial, trivial⟩, trivial⟩⟩⟩, ⟨trivial, ⟨⟨Tryz.func88, by decide, bodyOk.out pre88_ok⟩, ⟨⟨Tryz.func152, by decide, bodyOk.out pre152_ok⟩, ⟨⟨Tryz.func280, by decide, bodyOk.out pre280_ok⟩, trivial, trivial⟩, trivial⟩, ⟨⟨Tryz.func216, by decide, bodyOk.out pre216_ok⟩, trivial, trivial⟩⟩, ⟨⟨Tryz.func120, by decide, bodyOk.out pre120_ok⟩, ⟨⟨Tryz.func184, by decide, bodyOk.out pre184_ok⟩, ⟨⟨Tryz.func312, by decide, bodyOk.out pre312_ok⟩, trivial, trivial⟩, trivial⟩, ⟨⟨Tryz.func248, by decide, bodyOk.out pre248_ok⟩, trivial, trivial⟩⟩⟩⟩⟩, ⟨trivial, ⟨trivial, ⟨⟨Tryz.func36, by decide, bodyOk.out pre36_ok⟩, ⟨⟨Tryz.func68, by decide, bodyOk.out pre68_ok⟩, ⟨⟨Tryz.func132, by decide, bodyOk.out pre132_ok⟩, ⟨⟨Tryz.func260, by decide, bodyOk.out pre260_ok⟩, trivial, trivial⟩, trivial⟩, ⟨⟨Tryz.func196, by decide, bodyOk.out pre196_ok⟩, ⟨⟨Tryz.func324, by decide, bodyOk.out pre324_ok⟩, trivial, trivial⟩, trivial⟩⟩, ⟨⟨Tryz.func100, by decide, bodyOk.out pre100_ok⟩, ⟨⟨Tryz.func164, by decide, bodyOk.out pre164_ok⟩, ⟨⟨Tryz.func292, by decide, bodyOk.out pre292_ok⟩, trivial, trivial⟩, trivial⟩, ⟨⟨Tryz.func228, by decide, bodyOk.out pre228_ok⟩, ⟨⟨Tryz.func356, by decide, bodyOk.out pre356_ok⟩, trivial, trivial⟩, trivial⟩⟩⟩, ⟨trivial, ⟨trivial, ⟨⟨Tryz.func148, by decide, bodyOk.out pre148_ok⟩, ⟨⟨Tryz.func276, by decide, bodyOk.out pre276_ok⟩, trivial, trivial⟩, trivial⟩, ⟨trivial, ⟨⟨Tryz.func340, by decide, bodyOk.out pre340_ok⟩, trivial, trivial⟩, trivial⟩⟩, ⟨⟨Tryz.func116, by decide, bodyOk.out pre116_ok⟩, ⟨trivial, ⟨⟨Tryz.func308, by decide, bodyOk.out pre308_ok⟩, trivial, trivial⟩, trivial⟩, ⟨⟨Tryz.func244, by decide, bodyOk.out pre244_ok⟩, trivial, trivial⟩⟩⟩⟩, ⟨⟨Tryz.func28, by decide, bodyOk.out pre28_ok⟩, ⟨trivial, ⟨⟨Tryz.func76, by decide, bodyOk.out pre76_ok⟩, ⟨⟨Tryz.func140, by decide, bodyOk.out pre140_ok⟩, ⟨⟨Tryz.func268, by decide, bodyOk.out pre268_ok⟩, trivial, trivial⟩, trivial⟩, ⟨⟨Tryz.func204, by decide, bodyOk.out pre204_ok⟩, ⟨⟨Tryz.func332, by decide, bodyOk.out pre332_ok⟩, trivial, trivial⟩, trivial⟩⟩, ⟨⟨Tryz.func108, by decide, bodyOk.out pre108_ok⟩, ⟨⟨Tryz.func172, by decide, bodyOk.out pre172_ok⟩, ⟨⟨Tryz.func300, by decide, bodyOk.out pre300_ok⟩, trivial, trivial⟩, trivial⟩, ⟨trivial, ⟨⟨Tryz.func364, by decide, bodyOk.out pre364_ok⟩, trivial, trivial⟩, trivial⟩⟩⟩, ⟨trivial, ⟨⟨Tryz.func92, by decide, bodyOk.out pre92_ok⟩, ⟨⟨Tryz.func156, by decide, bodyOk.out pre156_ok⟩, ⟨⟨Tryz.func284, by decide, bodyOk.out pre284_ok⟩, trivial, trivial⟩, trivial⟩, ⟨⟨Tryz.func220, by decide, bodyOk.out pre220_ok⟩, ⟨⟨Tryz.func348, by decide, bodyOk.out pre348_ok⟩, trivial, trivial⟩, trivial⟩⟩, ⟨⟨Tryz.func124, by decide, bodyOk.out pre124_ok⟩, ⟨⟨Tryz.func188, by decide, bodyOk.out pre188_ok⟩, trivial, trivial⟩, ⟨⟨Tryz.func252, by decide, bodyOk.out pre252_ok⟩, trivial, trivial⟩⟩⟩⟩⟩⟩, ⟨trivial, ⟨trivial, ⟨trivial, ⟨trivial, ⟨⟨Tryz.func66, by decide, bodyOk.out pre66_ok⟩, ⟨⟨Tryz.func130, by decide, bodyOk.out pre130_ok⟩, trivial, trivial⟩, ⟨⟨Tryz.func194, by decide, bodyOk.out pre194_ok⟩, ⟨⟨Tryz.func322, by decide, bodyOk.out pre322_ok⟩, trivial, trivial⟩, trivial⟩⟩, ⟨trivial, trivial, ⟨⟨Tryz.func226, by decide, bodyOk.out pre226_ok⟩, ⟨⟨Tryz.func354, by decide, bodyOk.out pre354_ok⟩, trivial, trivial⟩, trivial⟩⟩⟩, ⟨⟨Tryz.func50, by decide, bodyOk.out pre50_ok⟩, ⟨⟨Tryz.func82, by decide, bodyOk.out pre82_ok⟩, ⟨⟨Tryz.func146, by decide, bodyOk.out pre146_ok⟩, ⟨⟨Tryz.func274, by decide, bodyOk.out pre274_ok⟩, trivial, trivial⟩, trivial⟩, ⟨⟨Tryz.func210, by decide, bodyOk.out pre210_ok⟩, ⟨⟨Tryz.func338, by decide, bodyOk.out pre338_ok⟩, trivial, trivial⟩, trivial⟩⟩, ⟨⟨Tryz.func114, by decide, bodyOk.out pre114_ok⟩, ⟨⟨Tryz.func178, by decide, bodyOk.out pre178_ok⟩, ⟨⟨Tryz.func306, by decide, bodyOk.out pre306_ok⟩, trivial, trivial⟩, trivial⟩, ⟨⟨Tryz.func242, by decide, bodyOk.out pre242_ok⟩, trivial, trivial⟩⟩⟩⟩, ⟨⟨Tryz.func26, by decide, bodyOk.out pre26_ok⟩, ⟨⟨Tryz.func42, by decide, bodyOk.out pre42_ok⟩, ⟨⟨Tryz.func74, by decide, bodyOk.out pre74_ok⟩, ⟨trivial, ⟨⟨Tryz.func266, by decide, bodyOk.out pre266_ok⟩, trivial, trivial⟩, trivial⟩, ⟨⟨Tryz.func202, by decide, bodyOk.out pre202_ok⟩, trivial, trivial⟩⟩, ⟨⟨Tryz.func106, by decide, bodyOk.out pre106_ok⟩, ⟨⟨Tryz.func170, by decide, bodyOk.out pre170_ok⟩, ⟨⟨Tryz.func298, by decide, bodyOk.out pre298_ok⟩, trivial, trivial⟩, trivial⟩, ⟨trivial, ⟨⟨Tryz.func362, by decide, bodyOk.out pre362_ok⟩, trivial, trivial⟩, trivial⟩⟩⟩, ⟨trivial, ⟨⟨Tryz.func90, by decide, bodyOk.out pre90_ok⟩, ⟨⟨Tryz.func154, by decide, bodyOk.out pre154_ok⟩, ⟨⟨Tryz.func282, by decide, bodyOk.out pre282_ok⟩, trivial, trivial⟩, trivial⟩, ⟨⟨Tryz.func218, by decide, bodyOk.out pre218_ok⟩, ⟨⟨Tryz.func346, by decide, bodyOk.out pre346_ok⟩, trivial, trivial⟩, trivial⟩⟩, ⟨trivial, ⟨⟨Tryz.func186, by decide, bodyOk.out pre186_ok⟩, trivial, trivial⟩, ⟨⟨Tryz.func250, by decide, bodyOk.out pre250_ok⟩, trivial, trivial⟩⟩⟩⟩⟩, ⟨trivial, ⟨⟨Tryz.func22, by decide, bodyOk.out pre22_ok⟩, ⟨trivial, ⟨⟨Tryz.func70, by decide, bodyOk.out pre70_ok⟩, ⟨⟨Tryz.func134, by decide, bodyOk.out pre134_ok⟩, ⟨⟨Tryz.func262, by decide, bodyOk.out pre262_ok⟩, trivial, trivial⟩, trivial⟩, ⟨⟨Tryz.func198, by decide, bodyOk.out pre198_ok⟩, ⟨⟨Tryz.func326, by decide, bodyOk.out pre326_ok⟩, trivial, trivial⟩, trivial⟩⟩, ⟨⟨Tryz.func102, by decide, bodyOk.out pre102_ok⟩, ⟨⟨Tryz.func166, by decide, bodyOk.out pre166_ok⟩, ⟨⟨Tryz.func294, by decide, bodyOk.out pre294_ok⟩, trivial, trivial⟩, trivial⟩, ⟨⟨Tryz.func230, by decide, bodyOk.out pre230_ok⟩, ⟨⟨Tryz.func358, by decide, bodyOk.out pre358_ok⟩, trivial, trivial⟩, trivial⟩⟩⟩, ⟨⟨Tryz.func54, by decide, bodyOk.out pre54_ok⟩, ⟨⟨Tryz.func86, by decide, bodyOk.out pre86_ok⟩, ⟨⟨Tryz.func150, by decide, bodyOk.out pre150_ok⟩, ⟨⟨Tryz.func278, by decide, bodyOk.out pre278_ok⟩, trivial, trivial⟩, trivial⟩, ⟨⟨Tryz.func214, by decide, bodyOk.out pre214_ok⟩, ⟨⟨Tryz.func342, by decide, bodyOk.out pre342_ok⟩, trivial, trivial⟩, trivial⟩⟩, ⟨⟨Tryz.func118, by decide, bodyOk.out pre118_ok⟩, ⟨⟨Tryz.func182, by decide, bodyOk.out pre182_ok⟩, ⟨⟨Tryz.func310, by decide, bodyOk.out pre310_ok⟩, trivial, trivial⟩, trivial⟩, ⟨⟨Tryz.func246, by decide, bodyOk.out pre246_ok⟩, trivial, trivial⟩⟩⟩⟩, ⟨trivial, ⟨⟨Tryz.func46, by decide, bodyOk.out pre46_ok⟩, ⟨⟨Tryz.func78, by decide, bodyOk.out pre78_ok⟩, ⟨⟨Tryz.func142, by decide, bodyOk.out pre142_ok⟩, ⟨⟨Tryz.func270, by decide, bodyOk.out pre270_ok⟩, trivial, trivial⟩, trivial⟩, ⟨⟨Tryz.func206, by decide, bodyOk.out pre206_ok⟩, ⟨⟨Tryz.func334, by decide, bodyOk.out pre334_ok⟩, trivial, trivial⟩, trivial⟩⟩, ⟨⟨Tryz.func110, by decide, bodyOk.out pre110_ok⟩, ⟨⟨Tryz.func174, by decide, bodyOk.out pre174_ok⟩, ⟨⟨Tryz.func302, by decide, bodyOk.out pre302_ok⟩, trivial, trivial⟩, trivial⟩, ⟨⟨Tryz.func238, by decide, bodyOk.out pre238_ok⟩, trivial, trivial⟩⟩⟩, ⟨trivial, ⟨⟨Tryz.func94, by decide, bodyOk.out pre94_ok⟩, ⟨⟨Tryz.func158, by decide, bodyOk.out pre158_ok⟩, ⟨⟨Tryz.func286, by decide, bodyOk.out pre286_ok⟩, trivial, trivial⟩, trivial⟩, ⟨⟨Tryz.func222, by decide, bodyOk.out pre222_ok⟩, ⟨⟨Tryz.func350, by decide, bodyOk.out pre350_ok⟩, trivial, trivial⟩, trivial⟩⟩, ⟨⟨Tryz.func126, by decide, bodyOk.out pre126_ok⟩, ⟨⟨Tryz.func190, by decide, bodyOk.out pre190_ok⟩, trivial, trivial⟩, ⟨⟨Tryz.func254, by decide, bodyOk.out pre254_ok⟩, trivial, trivial⟩⟩⟩⟩⟩⟩⟩⟩
/-- The program, its types, its one variable. -/
def kindsL : List Int := [0, 7, 5, 1, 1, 0, 6, 8, 8, 32, 64, 0, 16]
def globL : List (Nat × V) := [(0, .pr 13 1 fun i => [.v (.int .i64 (kindsL.getD i 0))])]
noncomputable def env : Env := ⟨Tryz.prog, fun t => tyT.get none t, globL⟩
noncomputable def fns : FuncId → Option (Func × Tr (Option Pre)) := fun f => fnT.get none f
theorem env_ok : env.Ok := ⟨fun t ti h => AllT.out tyT_ok t ti h⟩
theorem fns_ok : FnOk env fns := fun f fn T h => AllT.out fnT_ok f (fn, T) h
end Go.Proofs.YtnhkaggpknfeeaaGreatDoor
