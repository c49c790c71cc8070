/- FnExactStateFits: texts that its proof stands on, part 2. -/
import Derived.Test.YtklclbcckjhdpaaGreatRows
import Derived.OrdersHeld
import Derived.Test.YtklclbcckjhdpaaGreatQExactStateFitsa
namespace Go.Proofs.YtklclbcckjhdpaaGreat

open Go Go.Sx Go.RowKit

def tab : List (Nat × TI) := [
  (2, .mk false 1 [.int .i64 0] [] none (some .i64) 0 8),
  (3, .mk false 1 [.int .i64 0] [] none (some .i64) 0 8),
  (4, .mk false 1 [.bool false] [] none none 1 1),
  (5, .mk false 1 [.int .u8 0] [] none (some .u8) 0 1),
  (6, .mk false 1 [.int .u8 0] [] none (some .u8) 0 1),
  (7, .mk true 4 [.int .i64 0, .int .i64 0, .bool false, .int .u8 0] [(0, 1, false), (1, 1, false), (2, 1, false), (3, 1, false)] none none 0 24),
  (8, .mk true 4 [.int .i64 0, .int .i64 0, .bool false, .int .u8 0] [(0, 1, false), (1, 1, false), (2, 1, false), (3, 1, false)] none none 0 24),
  (9, .mk false 1 [.string ⟨#[]⟩] [] none none 2 16),
  (10, .mk false 1 [.string ⟨#[]⟩] [] none none 2 16),
  (11, .mk false 1 [.string ⟨#[]⟩] [] none none 2 16),
  (12, .mk false 1 [.int .u64 0] [] none (some .u64) 0 8),
  (13, .mk true 2 [.string ⟨#[]⟩, .int .u64 0] [(0, 1, false), (1, 1, false)] none none 0 24),
  (14, .mk true 2 [.string ⟨#[]⟩, .int .u64 0] [(0, 1, false), (1, 1, false)] none none 0 24),
  (15, .mk false 1 [.pointer none] [] none none 0 8),
  (16, .mk false 1 [.pointer none] [] none none 0 8),
  (17, .mk false 1 [.pointer none] [] none none 0 8),
  (18, .mk true 1 [.pointer none] [(0, 1, false)] none none 0 8),
  (19, .mk true 1 [.pointer none] [(0, 1, false)] none none 0 8),
  (21, .mk false 1 [.int .i32 0] [] none (some .i32) 0 4),
  (22, .mk false 1 [.slice none 0 0] [] (some 3) none 3 24),
  (23, .mk false 1 [.slice none 0 0] [] (some 161) none 3 24),
  (24, .mk true 5 [.slice none 0 0, .slice none 0 0, .slice none 0 0, .slice none 0 0, .slice none 0 0] [(0, 1, false), (1, 1, false), (2, 1, false), (3, 1, false), (4, 1, false)] none none 0 120),
  (25, .mk true 5 [.slice none 0 0, .slice none 0 0, .slice none 0 0, .slice none 0 0, .slice none 0 0] [(0, 1, false), (1, 1, false), (2, 1, false), (3, 1, false), (4, 1, false)] none none 0 120),
  (26, .mk false 1 [.slice none 0 0] [] (some 165) none 3 24),
  (27, .mk false 1 [.slice none 0 0] [] (some 167) none 3 24),
  (28, .mk false 1 [.slice none 0 0] [] (some 169) none 3 24),
  (29, .mk false 1 [.slice none 0 0] [] (some 171) none 3 24),
  (30, .mk false 1 [.slice none 0 0] [] (some 175) none 3 24),
  (31, .mk true 9 [.slice none 0 0, .slice none 0 0, .slice none 0 0, .slice none 0 0, .slice none 0 0, .slice none 0 0, .slice none 0 0, .slice none 0 0, .int .i64 0] [(0, 1, false), (1, 1, false), (2, 1, false), (3, 1, false), (4, 1, false), (5, 1, false), (6, 1, false), (7, 1, false), (8, 1, false)] none none 0 200),
  (32, .mk true 9 [.slice none 0 0, .slice none 0 0, .slice none 0 0, .slice none 0 0, .slice none 0 0, .slice none 0 0, .slice none 0 0, .slice none 0 0, .int .i64 0] [(0, 1, false), (1, 1, false), (2, 1, false), (3, 1, false), (4, 1, false), (5, 1, false), (6, 1, false), (7, 1, false), (8, 1, false)] none none 0 200),
  (35, .mk false 1 [.slice none 0 0] [] (some 95) none 3 24),
  (36, .mk false 1 [.slice none 0 0] [] (some 102) none 3 24),
  (37, .mk false 1 [.slice none 0 0] [] (some 108) none 3 24),
  (38, .mk false 1 [.slice none 0 0] [] (some 114) none 3 24),
  (39, .mk false 1 [.slice none 0 0] [] (some 119) none 3 24),
  (40, .mk true 9 [.slice none 0 0, .slice none 0 0, .slice none 0 0, .slice none 0 0, .slice none 0 0, .slice none 0 0, .slice none 0 0, .slice none 0 0, .int .i64 0] [(0, 1, false), (1, 1, false), (2, 1, false), (3, 1, false), (4, 1, false), (5, 1, false), (6, 1, false), (7, 1, false), (8, 1, false)] none none 0 200),
  (41, .mk true 9 [.slice none 0 0, .slice none 0 0, .slice none 0 0, .slice none 0 0, .slice none 0 0, .slice none 0 0, .slice none 0 0, .slice none 0 0, .int .i64 0] [(0, 1, false), (1, 1, false), (2, 1, false), (3, 1, false), (4, 1, false), (5, 1, false), (6, 1, false), (7, 1, false), (8, 1, false)] none none 0 200),
  (44, .mk false 1 [.slice none 0 0] [] (some 89) none 3 24),
  (45, .mk true 5 [.slice none 0 0, .slice none 0 0, .slice none 0 0, .slice none 0 0, .slice none 0 0] [(0, 1, false), (1, 1, false), (2, 1, false), (3, 1, false), (4, 1, false)] none none 0 120),
  (46, .mk true 5 [.slice none 0 0, .slice none 0 0, .slice none 0 0, .slice none 0 0, .slice none 0 0] [(0, 1, false), (1, 1, false), (2, 1, false), (3, 1, false), (4, 1, false)] none none 0 120),
  (56, .mk true 3 [.int .i64 0, .int .i64 0, .int .i64 0] [(0, 1, false), (1, 1, false), (2, 1, false)] none none 0 24),
  (57, .mk true 3 [.int .i64 0, .int .i64 0, .int .i64 0] [(0, 1, false), (1, 1, false), (2, 1, false)] none none 0 24),
  (85, .mk false 1 [.pointer none] [] none none 0 8),
  (87, .mk true 15 [.slice none 0 0, .slice none 0 0, .slice none 0 0, .slice none 0 0, .slice none 0 0, .slice none 0 0, .slice none 0 0, .slice none 0 0, .slice none 0 0, .slice none 0 0, .slice none 0 0, .slice none 0 0, .slice none 0 0, .int .i64 0, .bool false] [(0, 5, true), (5, 9, true), (14, 1, false)] none none 0 328),
  (88, .mk true 15 [.slice none 0 0, .slice none 0 0, .slice none 0 0, .slice none 0 0, .slice none 0 0, .slice none 0 0, .slice none 0 0, .slice none 0 0, .slice none 0 0, .slice none 0 0, .slice none 0 0, .slice none 0 0, .slice none 0 0, .int .i64 0, .bool false] [(0, 5, true), (5, 9, true), (14, 1, false)] none none 0 328),
  (89, .mk false 1 [.slice none 0 0] [] (some 57) none 3 24),
  (93, .mk false 1 [.slice none 0 0] [] (some 193) none 3 24),
  (94, .mk true 3 [.int .i64 0, .int .i64 0, .slice none 0 0] [(0, 1, false), (1, 1, false), (2, 1, false)] none none 0 40),
  (95, .mk true 3 [.int .i64 0, .int .i64 0, .slice none 0 0] [(0, 1, false), (1, 1, false), (2, 1, false)] none none 0 40),
  (101, .mk true 4 [.int .i64 0, .int .i64 0, .int .i64 0, .slice none 0 0] [(0, 1, false), (1, 1, false), (2, 1, false), (3, 1, false)] none none 0 48),
  (102, .mk true 4 [.int .i64 0, .int .i64 0, .int .i64 0, .slice none 0 0] [(0, 1, false), (1, 1, false), (2, 1, false), (3, 1, false)] none none 0 48),
  (107, .mk true 2 [.int .i64 0, .slice none 0 0] [(0, 1, false), (1, 1, false)] none none 0 32),
  (108, .mk true 2 [.int .i64 0, .slice none 0 0] [(0, 1, false), (1, 1, false)] none none 0 32),
  (113, .mk true 3 [.int .i64 0, .int .i64 0, .slice none 0 0] [(0, 1, false), (1, 1, false), (2, 1, false)] none none 0 40),
  (114, .mk true 3 [.int .i64 0, .int .i64 0, .slice none 0 0] [(0, 1, false), (1, 1, false), (2, 1, false)] none none 0 40),
  (117, .mk false 1 [.slice none 0 0] [] (some 196) none 3 24),
  (118, .mk true 5 [.int .i64 0, .slice none 0 0, .slice none 0 0, .slice none 0 0, .bool false] [(0, 1, false), (1, 1, false), (2, 1, false), (3, 1, false), (4, 1, false)] none none 0 88),
  (119, .mk true 5 [.int .i64 0, .slice none 0 0, .slice none 0 0, .slice none 0 0, .bool false] [(0, 1, false), (1, 1, false), (2, 1, false), (3, 1, false), (4, 1, false)] none none 0 88),
  (147, .mk false 1 [.map none] [] none none 0 8),
  (148, .mk false 1 [.map none] [] none none 0 8),
  (151, .mk false 1 [.slice none 0 0] [] (some 153) none 3 24),
  (152, .mk true 3 [.int .i64 0, .int .i64 0, .int .i64 0] [(0, 1, false), (1, 1, false), (2, 1, false)] none none 0 24),
  (153, .mk true 3 [.int .i64 0, .int .i64 0, .int .i64 0] [(0, 1, false), (1, 1, false), (2, 1, false)] none none 0 24),
  (155, .mk true 10 [.slice none 0 0, .slice none 0 0, .slice none 0 0, .slice none 0 0, .slice none 0 0, .slice none 0 0, .slice none 0 0, .slice none 0 0, .int .i64 0, .slice none 0 0] [(0, 9, true), (9, 1, false)] none none 0 224),
  (156, .mk true 10 [.slice none 0 0, .slice none 0 0, .slice none 0 0, .slice none 0 0, .slice none 0 0, .slice none 0 0, .slice none 0 0, .slice none 0 0, .int .i64 0, .slice none 0 0] [(0, 9, true), (9, 1, false)] none none 0 224),
  (161, .mk false 1 [.slice none 0 0] [] (some 228) none 3 24),
  (163, .mk false 1 [.slice none 0 0] [] (some 242) none 3 24),
  (164, .mk true 3 [.int .i64 0, .int .i64 0, .slice none 0 0] [(0, 1, false), (1, 1, false), (2, 1, false)] none none 0 40),
  (165, .mk true 3 [.int .i64 0, .int .i64 0, .slice none 0 0] [(0, 1, false), (1, 1, false), (2, 1, false)] none none 0 40),
  (167, .mk true 4 [.int .i64 0, .int .i64 0, .int .i64 0, .slice none 0 0] [(0, 1, false), (1, 1, false), (2, 1, false), (3, 1, false)] none none 0 48),
  (169, .mk true 2 [.int .i64 0, .slice none 0 0] [(0, 1, false), (1, 1, false)] none none 0 32),
  (171, .mk true 3 [.int .i64 0, .int .i64 0, .slice none 0 0] [(0, 1, false), (1, 1, false), (2, 1, false)] none none 0 40),
  (173, .mk false 1 [.slice none 0 0] [] (some 244) none 3 24),
  (174, .mk true 5 [.int .i64 0, .slice none 0 0, .slice none 0 0, .slice none 0 0, .bool false] [(0, 1, false), (1, 1, false), (2, 1, false), (3, 1, false), (4, 1, false)] none none 0 88),
  (175, .mk true 5 [.int .i64 0, .slice none 0 0, .slice none 0 0, .slice none 0 0, .bool false] [(0, 1, false), (1, 1, false), (2, 1, false), (3, 1, false), (4, 1, false)] none none 0 88),
  (192, .mk true 2 [.int .i64 0, .int .i64 0] [(0, 1, false), (1, 1, false)] none none 0 16),
  (193, .mk true 2 [.int .i64 0, .int .i64 0] [(0, 1, false), (1, 1, false)] none none 0 16),
  (195, .mk true 2 [.int .i64 0, .int .i64 0] [(0, 1, false), (1, 1, false)] none none 0 16),
  (196, .mk true 2 [.int .i64 0, .int .i64 0] [(0, 1, false), (1, 1, false)] none none 0 16),
  (228, .mk true 3 [.int .i64 0, .int .i64 0, .int .i64 0] [(0, 1, false), (1, 1, false), (2, 1, false)] none none 0 24),
  (233, .mk false 1 [.pointer none] [] none none 0 8),
  (237, .mk false 1 [.map none] [] none none 0 8),
  (242, .mk true 2 [.int .i64 0, .int .i64 0] [(0, 1, false), (1, 1, false)] none none 0 16),
  (244, .mk true 2 [.int .i64 0, .int .i64 0] [(0, 1, false), (1, 1, false)] none none 0 16),
  (247, .mk false 1 [.slice none 0 0] [] (some 9) none 3 24),
  (249, .mk true 4 [.pointer none, .pointer none, .pointer none, .string ⟨#[]⟩] [(0, 1, false), (1, 1, false), (2, 1, false), (3, 1, false)] none none 0 40),
  (250, .mk true 4 [.pointer none, .pointer none, .pointer none, .string ⟨#[]⟩] [(0, 1, false), (1, 1, false), (2, 1, false), (3, 1, false)] none none 0 40),
  (255, .mk false 1 [.int .u32 0] [] none (some .u32) 0 4),
  (256, .mk false 1 [.int .u8 0] [] none (some .u8) 0 1),
  (257, .mk false 1 [.int .u8 0] [] none (some .u8) 0 1),
  (259, .mk false 1 [.pointer none] [] none none 0 8),
  (260, .mk false 1 [.int .i32 0] [] none (some .i32) 0 4),
  (261, .mk false 1 [.int .i32 0] [] none (some .i32) 0 4),
  (265, .mk false 1 [.pointer none] [] none none 0 8)]

theorem ti2 : TIok Tryz.prog 2 (.mk false 1 [.int .i64 0] [] none (some .i64) 0 8) := by
  show tiSum Tryz.prog 2 = _
  kernel_rfl

theorem ti3 : TIok Tryz.prog 3 (.mk false 1 [.int .i64 0] [] none (some .i64) 0 8) := by
  show tiSum Tryz.prog 3 = _
  kernel_rfl

theorem ti4 : TIok Tryz.prog 4 (.mk false 1 [.bool false] [] none none 1 1) := by
  show tiSum Tryz.prog 4 = _
  kernel_rfl

theorem ti5 : TIok Tryz.prog 5 (.mk false 1 [.int .u8 0] [] none (some .u8) 0 1) := by
  show tiSum Tryz.prog 5 = _
  kernel_rfl

theorem ti6 : TIok Tryz.prog 6 (.mk false 1 [.int .u8 0] [] none (some .u8) 0 1) := by
  show tiSum Tryz.prog 6 = _
  kernel_rfl

theorem ti7 : TIok Tryz.prog 7 (.mk true 4 [.int .i64 0, .int .i64 0, .bool false, .int .u8 0] [(0, 1, false), (1, 1, false), (2, 1, false), (3, 1, false)] none none 0 24) := by
  show tiSum Tryz.prog 7 = _
  kernel_rfl

theorem ti8 : TIok Tryz.prog 8 (.mk true 4 [.int .i64 0, .int .i64 0, .bool false, .int .u8 0] [(0, 1, false), (1, 1, false), (2, 1, false), (3, 1, false)] none none 0 24) := by
  show tiSum Tryz.prog 8 = _
  kernel_rfl

theorem ti9 : TIok Tryz.prog 9 (.mk false 1 [.string ⟨#[]⟩] [] none none 2 16) := by
  show tiSum Tryz.prog 9 = _
  kernel_rfl

theorem ti10 : TIok Tryz.prog 10 (.mk false 1 [.string ⟨#[]⟩] [] none none 2 16) := by
  show tiSum Tryz.prog 10 = _
  kernel_rfl

theorem ti11 : TIok Tryz.prog 11 (.mk false 1 [.string ⟨#[]⟩] [] none none 2 16) := by
  show tiSum Tryz.prog 11 = _
  kernel_rfl

theorem ti12 : TIok Tryz.prog 12 (.mk false 1 [.int .u64 0] [] none (some .u64) 0 8) := by
  show tiSum Tryz.prog 12 = _
  kernel_rfl

theorem ti13 : TIok Tryz.prog 13 (.mk true 2 [.string ⟨#[]⟩, .int .u64 0] [(0, 1, false), (1, 1, false)] none none 0 24) := by
  show tiSum Tryz.prog 13 = _
  kernel_rfl

theorem ti14 : TIok Tryz.prog 14 (.mk true 2 [.string ⟨#[]⟩, .int .u64 0] [(0, 1, false), (1, 1, false)] none none 0 24) := by
  show tiSum Tryz.prog 14 = _
  kernel_rfl

theorem ti15 : TIok Tryz.prog 15 (.mk false 1 [.pointer none] [] none none 0 8) := by
  show tiSum Tryz.prog 15 = _
  kernel_rfl

theorem ti16 : TIok Tryz.prog 16 (.mk false 1 [.pointer none] [] none none 0 8) := by
  show tiSum Tryz.prog 16 = _
  kernel_rfl

theorem ti17 : TIok Tryz.prog 17 (.mk false 1 [.pointer none] [] none none 0 8) := by
  show tiSum Tryz.prog 17 = _
  kernel_rfl

theorem ti18 : TIok Tryz.prog 18 (.mk true 1 [.pointer none] [(0, 1, false)] none none 0 8) := by
  show tiSum Tryz.prog 18 = _
  kernel_rfl

theorem ti19 : TIok Tryz.prog 19 (.mk true 1 [.pointer none] [(0, 1, false)] none none 0 8) := by
  show tiSum Tryz.prog 19 = _
  kernel_rfl

theorem ti21 : TIok Tryz.prog 21 (.mk false 1 [.int .i32 0] [] none (some .i32) 0 4) := by
  show tiSum Tryz.prog 21 = _
  kernel_rfl

theorem ti22 : TIok Tryz.prog 22 (.mk false 1 [.slice none 0 0] [] (some 3) none 3 24) := by
  show tiSum Tryz.prog 22 = _
  kernel_rfl

theorem ti23 : TIok Tryz.prog 23 (.mk false 1 [.slice none 0 0] [] (some 161) none 3 24) := by
  show tiSum Tryz.prog 23 = _
  kernel_rfl

theorem ti24 : TIok Tryz.prog 24 (.mk true 5 [.slice none 0 0, .slice none 0 0, .slice none 0 0, .slice none 0 0, .slice none 0 0] [(0, 1, false), (1, 1, false), (2, 1, false), (3, 1, false), (4, 1, false)] none none 0 120) := by
  show tiSum Tryz.prog 24 = _
  kernel_rfl

theorem ti25 : TIok Tryz.prog 25 (.mk true 5 [.slice none 0 0, .slice none 0 0, .slice none 0 0, .slice none 0 0, .slice none 0 0] [(0, 1, false), (1, 1, false), (2, 1, false), (3, 1, false), (4, 1, false)] none none 0 120) := by
  show tiSum Tryz.prog 25 = _
  kernel_rfl

theorem ti26 : TIok Tryz.prog 26 (.mk false 1 [.slice none 0 0] [] (some 165) none 3 24) := by
  show tiSum Tryz.prog 26 = _
  kernel_rfl

theorem ti27 : TIok Tryz.prog 27 (.mk false 1 [.slice none 0 0] [] (some 167) none 3 24) := by
  show tiSum Tryz.prog 27 = _
  kernel_rfl

theorem ti28 : TIok Tryz.prog 28 (.mk false 1 [.slice none 0 0] [] (some 169) none 3 24) := by
  show tiSum Tryz.prog 28 = _
  kernel_rfl

theorem ti29 : TIok Tryz.prog 29 (.mk false 1 [.slice none 0 0] [] (some 171) none 3 24) := by
  show tiSum Tryz.prog 29 = _
  kernel_rfl

theorem ti30 : TIok Tryz.prog 30 (.mk false 1 [.slice none 0 0] [] (some 175) none 3 24) := by
  show tiSum Tryz.prog 30 = _
  kernel_rfl

theorem ti31 : TIok Tryz.prog 31 (.mk true 9 [.slice none 0 0, .slice none 0 0, .slice none 0 0, .slice none 0 0, .slice none 0 0, .slice none 0 0, .slice none 0 0, .slice none 0 0, .int .i64 0] [(0, 1, false), (1, 1, false), (2, 1, false), (3, 1, false), (4, 1, false), (5, 1, false), (6, 1, false), (7, 1, false), (8, 1, false)] none none 0 200) := by
  show tiSum Tryz.prog 31 = _
  kernel_rfl

theorem ti32 : TIok Tryz.prog 32 (.mk true 9 [.slice none 0 0, .slice none 0 0, .slice none 0 0, .slice none 0 0, .slice none 0 0, .slice none 0 0, .slice none 0 0, .slice none 0 0, .int .i64 0] [(0, 1, false), (1, 1, false), (2, 1, false), (3, 1, false), (4, 1, false), (5, 1, false), (6, 1, false), (7, 1, false), (8, 1, false)] none none 0 200) := by
  show tiSum Tryz.prog 32 = _
  kernel_rfl

theorem ti35 : TIok Tryz.prog 35 (.mk false 1 [.slice none 0 0] [] (some 95) none 3 24) := by
  show tiSum Tryz.prog 35 = _
  kernel_rfl

theorem ti36 : TIok Tryz.prog 36 (.mk false 1 [.slice none 0 0] [] (some 102) none 3 24) := by
  show tiSum Tryz.prog 36 = _
  kernel_rfl

theorem ti37 : TIok Tryz.prog 37 (.mk false 1 [.slice none 0 0] [] (some 108) none 3 24) := by
  show tiSum Tryz.prog 37 = _
  kernel_rfl

theorem ti38 : TIok Tryz.prog 38 (.mk false 1 [.slice none 0 0] [] (some 114) none 3 24) := by
  show tiSum Tryz.prog 38 = _
  kernel_rfl

theorem ti39 : TIok Tryz.prog 39 (.mk false 1 [.slice none 0 0] [] (some 119) none 3 24) := by
  show tiSum Tryz.prog 39 = _
  kernel_rfl

theorem ti40 : TIok Tryz.prog 40 (.mk true 9 [.slice none 0 0, .slice none 0 0, .slice none 0 0, .slice none 0 0, .slice none 0 0, .slice none 0 0, .slice none 0 0, .slice none 0 0, .int .i64 0] [(0, 1, false), (1, 1, false), (2, 1, false), (3, 1, false), (4, 1, false), (5, 1, false), (6, 1, false), (7, 1, false), (8, 1, false)] none none 0 200) := by
  show tiSum Tryz.prog 40 = _
  kernel_rfl

theorem ti41 : TIok Tryz.prog 41 (.mk true 9 [.slice none 0 0, .slice none 0 0, .slice none 0 0, .slice none 0 0, .slice none 0 0, .slice none 0 0, .slice none 0 0, .slice none 0 0, .int .i64 0] [(0, 1, false), (1, 1, false), (2, 1, false), (3, 1, false), (4, 1, false), (5, 1, false), (6, 1, false), (7, 1, false), (8, 1, false)] none none 0 200) := by
  show tiSum Tryz.prog 41 = _
  kernel_rfl

theorem ti44 : TIok Tryz.prog 44 (.mk false 1 [.slice none 0 0] [] (some 89) none 3 24) := by
  show tiSum Tryz.prog 44 = _
  kernel_rfl

theorem ti45 : TIok Tryz.prog 45 (.mk true 5 [.slice none 0 0, .slice none 0 0, .slice none 0 0, .slice none 0 0, .slice none 0 0] [(0, 1, false), (1, 1, false), (2, 1, false), (3, 1, false), (4, 1, false)] none none 0 120) := by
  show tiSum Tryz.prog 45 = _
  kernel_rfl

theorem ti46 : TIok Tryz.prog 46 (.mk true 5 [.slice none 0 0, .slice none 0 0, .slice none 0 0, .slice none 0 0, .slice none 0 0] [(0, 1, false), (1, 1, false), (2, 1, false), (3, 1, false), (4, 1, false)] none none 0 120) := by
  show tiSum Tryz.prog 46 = _
  kernel_rfl

theorem ti56 : TIok Tryz.prog 56 (.mk true 3 [.int .i64 0, .int .i64 0, .int .i64 0] [(0, 1, false), (1, 1, false), (2, 1, false)] none none 0 24) := by
  show tiSum Tryz.prog 56 = _
  kernel_rfl

theorem ti57 : TIok Tryz.prog 57 (.mk true 3 [.int .i64 0, .int .i64 0, .int .i64 0] [(0, 1, false), (1, 1, false), (2, 1, false)] none none 0 24) := by
  show tiSum Tryz.prog 57 = _
  kernel_rfl

theorem ti85 : TIok Tryz.prog 85 (.mk false 1 [.pointer none] [] none none 0 8) := by
  show tiSum Tryz.prog 85 = _
  kernel_rfl

theorem ti87 : TIok Tryz.prog 87 (.mk true 15 [.slice none 0 0, .slice none 0 0, .slice none 0 0, .slice none 0 0, .slice none 0 0, .slice none 0 0, .slice none 0 0, .slice none 0 0, .slice none 0 0, .slice none 0 0, .slice none 0 0, .slice none 0 0, .slice none 0 0, .int .i64 0, .bool false] [(0, 5, true), (5, 9, true), (14, 1, false)] none none 0 328) := by
  show tiSum Tryz.prog 87 = _
  kernel_rfl

theorem ti88 : TIok Tryz.prog 88 (.mk true 15 [.slice none 0 0, .slice none 0 0, .slice none 0 0, .slice none 0 0, .slice none 0 0, .slice none 0 0, .slice none 0 0, .slice none 0 0, .slice none 0 0, .slice none 0 0, .slice none 0 0, .slice none 0 0, .slice none 0 0, .int .i64 0, .bool false] [(0, 5, true), (5, 9, true), (14, 1, false)] none none 0 328) := by
  show tiSum Tryz.prog 88 = _
  kernel_rfl

theorem ti89 : TIok Tryz.prog 89 (.mk false 1 [.slice none 0 0] [] (some 57) none 3 24) := by
  show tiSum Tryz.prog 89 = _
  kernel_rfl

theorem ti93 : TIok Tryz.prog 93 (.mk false 1 [.slice none 0 0] [] (some 193) none 3 24) := by
  show tiSum Tryz.prog 93 = _
  kernel_rfl

theorem ti94 : TIok Tryz.prog 94 (.mk true 3 [.int .i64 0, .int .i64 0, .slice none 0 0] [(0, 1, false), (1, 1, false), (2, 1, false)] none none 0 40) := by
  show tiSum Tryz.prog 94 = _
  kernel_rfl

theorem ti95 : TIok Tryz.prog 95 (.mk true 3 [.int .i64 0, .int .i64 0, .slice none 0 0] [(0, 1, false), (1, 1, false), (2, 1, false)] none none 0 40) := by
  show tiSum Tryz.prog 95 = _
  kernel_rfl

theorem ti101 : TIok Tryz.prog 101 (.mk true 4 [.int .i64 0, .int .i64 0, .int .i64 0, .slice none 0 0] [(0, 1, false), (1, 1, false), (2, 1, false), (3, 1, false)] none none 0 48) := by
  show tiSum Tryz.prog 101 = _
  kernel_rfl

theorem ti102 : TIok Tryz.prog 102 (.mk true 4 [.int .i64 0, .int .i64 0, .int .i64 0, .slice none 0 0] [(0, 1, false), (1, 1, false), (2, 1, false), (3, 1, false)] none none 0 48) := by
  show tiSum Tryz.prog 102 = _
  kernel_rfl

theorem ti107 : TIok Tryz.prog 107 (.mk true 2 [.int .i64 0, .slice none 0 0] [(0, 1, false), (1, 1, false)] none none 0 32) := by
  show tiSum Tryz.prog 107 = _
  kernel_rfl

theorem ti108 : TIok Tryz.prog 108 (.mk true 2 [.int .i64 0, .slice none 0 0] [(0, 1, false), (1, 1, false)] none none 0 32) := by
  show tiSum Tryz.prog 108 = _
  kernel_rfl

theorem ti113 : TIok Tryz.prog 113 (.mk true 3 [.int .i64 0, .int .i64 0, .slice none 0 0] [(0, 1, false), (1, 1, false), (2, 1, false)] none none 0 40) := by
  show tiSum Tryz.prog 113 = _
  kernel_rfl

theorem ti114 : TIok Tryz.prog 114 (.mk true 3 [.int .i64 0, .int .i64 0, .slice none 0 0] [(0, 1, false), (1, 1, false), (2, 1, false)] none none 0 40) := by
  show tiSum Tryz.prog 114 = _
  kernel_rfl

theorem ti117 : TIok Tryz.prog 117 (.mk false 1 [.slice none 0 0] [] (some 196) none 3 24) := by
  show tiSum Tryz.prog 117 = _
  kernel_rfl

theorem ti118 : TIok Tryz.prog 118 (.mk true 5 [.int .i64 0, .slice none 0 0, .slice none 0 0, .slice none 0 0, .bool false] [(0, 1, false), (1, 1, false), (2, 1, false), (3, 1, false), (4, 1, false)] none none 0 88) := by
  show tiSum Tryz.prog 118 = _
  kernel_rfl

theorem ti119 : TIok Tryz.prog 119 (.mk true 5 [.int .i64 0, .slice none 0 0, .slice none 0 0, .slice none 0 0, .bool false] [(0, 1, false), (1, 1, false), (2, 1, false), (3, 1, false), (4, 1, false)] none none 0 88) := by
  show tiSum Tryz.prog 119 = _
  kernel_rfl

theorem ti147 : TIok Tryz.prog 147 (.mk false 1 [.map none] [] none none 0 8) := by
  show tiSum Tryz.prog 147 = _
  kernel_rfl

theorem ti148 : TIok Tryz.prog 148 (.mk false 1 [.map none] [] none none 0 8) := by
  show tiSum Tryz.prog 148 = _
  kernel_rfl

theorem ti151 : TIok Tryz.prog 151 (.mk false 1 [.slice none 0 0] [] (some 153) none 3 24) := by
  show tiSum Tryz.prog 151 = _
  kernel_rfl

theorem ti152 : TIok Tryz.prog 152 (.mk true 3 [.int .i64 0, .int .i64 0, .int .i64 0] [(0, 1, false), (1, 1, false), (2, 1, false)] none none 0 24) := by
  show tiSum Tryz.prog 152 = _
  kernel_rfl

theorem ti153 : TIok Tryz.prog 153 (.mk true 3 [.int .i64 0, .int .i64 0, .int .i64 0] [(0, 1, false), (1, 1, false), (2, 1, false)] none none 0 24) := by
  show tiSum Tryz.prog 153 = _
  kernel_rfl

theorem ti155 : TIok Tryz.prog 155 (.mk true 10 [.slice none 0 0, .slice none 0 0, .slice none 0 0, .slice none 0 0, .slice none 0 0, .slice none 0 0, .slice none 0 0, .slice none 0 0, .int .i64 0, .slice none 0 0] [(0, 9, true), (9, 1, false)] none none 0 224) := by
  show tiSum Tryz.prog 155 = _
  kernel_rfl

theorem ti156 : TIok Tryz.prog 156 (.mk true 10 [.slice none 0 0, .slice none 0 0, .slice none 0 0, .slice none 0 0, .slice none 0 0, .slice none 0 0, .slice none 0 0, .slice none 0 0, .int .i64 0, .slice none 0 0] [(0, 9, true), (9, 1, false)] none none 0 224) := by
  show tiSum Tryz.prog 156 = _
  kernel_rfl

theorem ti161 : TIok Tryz.prog 161 (.mk false 1 [.slice none 0 0] [] (some 228) none 3 24) := by
  show tiSum Tryz.prog 161 = _
  kernel_rfl

theorem ti163 : TIok Tryz.prog 163 (.mk false 1 [.slice none 0 0] [] (some 242) none 3 24) := by
  show tiSum Tryz.prog 163 = _
  kernel_rfl

theorem ti164 : TIok Tryz.prog 164 (.mk true 3 [.int .i64 0, .int .i64 0, .slice none 0 0] [(0, 1, false), (1, 1, false), (2, 1, false)] none none 0 40) := by
  show tiSum Tryz.prog 164 = _
  kernel_rfl

theorem ti165 : TIok Tryz.prog 165 (.mk true 3 [.int .i64 0, .int .i64 0, .slice none 0 0] [(0, 1, false), (1, 1, false), (2, 1, false)] none none 0 40) := by
  show tiSum Tryz.prog 165 = _
  kernel_rfl

theorem ti167 : TIok Tryz.prog 167 (.mk true 4 [.int .i64 0, .int .i64 0, .int .i64 0, .slice none 0 0] [(0, 1, false), (1, 1, false), (2, 1, false), (3, 1, false)] none none 0 48) := by
  show tiSum Tryz.prog 167 = _
  kernel_rfl

theorem ti169 : TIok Tryz.prog 169 (.mk true 2 [.int .i64 0, .slice none 0 0] [(0, 1, false), (1, 1, false)] none none 0 32) := by
  show tiSum Tryz.prog 169 = _
  kernel_rfl

theorem ti171 : TIok Tryz.prog 171 (.mk true 3 [.int .i64 0, .int .i64 0, .slice none 0 0] [(0, 1, false), (1, 1, false), (2, 1, false)] none none 0 40) := by
  show tiSum Tryz.prog 171 = _
  kernel_rfl

theorem ti173 : TIok Tryz.prog 173 (.mk false 1 [.slice none 0 0] [] (some 244) none 3 24) := by
  show tiSum Tryz.prog 173 = _
  kernel_rfl

theorem ti174 : TIok Tryz.prog 174 (.mk true 5 [.int .i64 0, .slice none 0 0, .slice none 0 0, .slice none 0 0, .bool false] [(0, 1, false), (1, 1, false), (2, 1, false), (3, 1, false), (4, 1, false)] none none 0 88) := by
  show tiSum Tryz.prog 174 = _
  kernel_rfl

theorem ti175 : TIok Tryz.prog 175 (.mk true 5 [.int .i64 0, .slice none 0 0, .slice none 0 0, .slice none 0 0, .bool false] [(0, 1, false), (1, 1, false), (2, 1, false), (3, 1, false), (4, 1, false)] none none 0 88) := by
  show tiSum Tryz.prog 175 = _
  kernel_rfl

theorem ti192 : TIok Tryz.prog 192 (.mk true 2 [.int .i64 0, .int .i64 0] [(0, 1, false), (1, 1, false)] none none 0 16) := by
  show tiSum Tryz.prog 192 = _
  kernel_rfl

theorem ti193 : TIok Tryz.prog 193 (.mk true 2 [.int .i64 0, .int .i64 0] [(0, 1, false), (1, 1, false)] none none 0 16) := by
  show tiSum Tryz.prog 193 = _
  kernel_rfl

theorem ti195 : TIok Tryz.prog 195 (.mk true 2 [.int .i64 0, .int .i64 0] [(0, 1, false), (1, 1, false)] none none 0 16) := by
  show tiSum Tryz.prog 195 = _
  kernel_rfl

theorem ti196 : TIok Tryz.prog 196 (.mk true 2 [.int .i64 0, .int .i64 0] [(0, 1, false), (1, 1, false)] none none 0 16) := by
  show tiSum Tryz.prog 196 = _
  kernel_rfl

theorem ti228 : TIok Tryz.prog 228 (.mk true 3 [.int .i64 0, .int .i64 0, .int .i64 0] [(0, 1, false), (1, 1, false), (2, 1, false)] none none 0 24) := by
  show tiSum Tryz.prog 228 = _
  kernel_rfl

theorem ti233 : TIok Tryz.prog 233 (.mk false 1 [.pointer none] [] none none 0 8) := by
  show tiSum Tryz.prog 233 = _
  kernel_rfl

theorem ti237 : TIok Tryz.prog 237 (.mk false 1 [.map none] [] none none 0 8) := by
  show tiSum Tryz.prog 237 = _
  kernel_rfl

theorem ti242 : TIok Tryz.prog 242 (.mk true 2 [.int .i64 0, .int .i64 0] [(0, 1, false), (1, 1, false)] none none 0 16) := by
  show tiSum Tryz.prog 242 = _
  kernel_rfl

theorem ti244 : TIok Tryz.prog 244 (.mk true 2 [.int .i64 0, .int .i64 0] [(0, 1, false), (1, 1, false)] none none 0 16) := by
  show tiSum Tryz.prog 244 = _
  kernel_rfl

theorem ti247 : TIok Tryz.prog 247 (.mk false 1 [.slice none 0 0] [] (some 9) none 3 24) := by
  show tiSum Tryz.prog 247 = _
  kernel_rfl

theorem ti249 : TIok Tryz.prog 249 (.mk true 4 [.pointer none, .pointer none, .pointer none, .string ⟨#[]⟩] [(0, 1, false), (1, 1, false), (2, 1, false), (3, 1, false)] none none 0 40) := by
  show tiSum Tryz.prog 249 = _
  kernel_rfl

theorem ti250 : TIok Tryz.prog 250 (.mk true 4 [.pointer none, .pointer none, .pointer none, .string ⟨#[]⟩] [(0, 1, false), (1, 1, false), (2, 1, false), (3, 1, false)] none none 0 40) := by
  show tiSum Tryz.prog 250 = _
  kernel_rfl

theorem ti255 : TIok Tryz.prog 255 (.mk false 1 [.int .u32 0] [] none (some .u32) 0 4) := by
  show tiSum Tryz.prog 255 = _
  kernel_rfl

theorem ti256 : TIok Tryz.prog 256 (.mk false 1 [.int .u8 0] [] none (some .u8) 0 1) := by
  show tiSum Tryz.prog 256 = _
  kernel_rfl

theorem ti257 : TIok Tryz.prog 257 (.mk false 1 [.int .u8 0] [] none (some .u8) 0 1) := by
  show tiSum Tryz.prog 257 = _
  kernel_rfl

theorem ti259 : TIok Tryz.prog 259 (.mk false 1 [.pointer none] [] none none 0 8) := by
  show tiSum Tryz.prog 259 = _
  kernel_rfl

theorem ti260 : TIok Tryz.prog 260 (.mk false 1 [.int .i32 0] [] none (some .i32) 0 4) := by
  show tiSum Tryz.prog 260 = _
  kernel_rfl

theorem ti261 : TIok Tryz.prog 261 (.mk false 1 [.int .i32 0] [] none (some .i32) 0 4) := by
  show tiSum Tryz.prog 261 = _
  kernel_rfl

theorem ti265 : TIok Tryz.prog 265 (.mk false 1 [.pointer none] [] none none 0 8) := by
  show tiSum Tryz.prog 265 = _
  kernel_rfl

theorem tabOk (t : TypeId) : TIok Tryz.prog t (tiOf tab t) := tiOf_ok (P := Tryz.prog) (tab := tab) (TIall.of_R (show TIallR Tryz.prog tab from ⟨ti2, ti3, ti4, ti5, ti6, ti7, ti8, ti9, ti10, ti11, ti12, ti13, ti14, ti15, ti16, ti17, ti18, ti19, ti21, ti22, ti23, ti24, ti25, ti26, ti27, ti28, ti29, ti30, ti31, ti32, ti35, ti36, ti37, ti38, ti39, ti40, ti41, ti44, ti45, ti46, ti56, ti57, ti85, ti87, ti88, ti89, ti93, ti94, ti95, ti101, ti102, ti107, ti108, ti113, ti114, ti117, ti118, ti119, ti147, ti148, ti151, ti152, ti153, ti155, ti156, ti161, ti163, ti164, ti165, ti167, ti169, ti171, ti173, ti174, ti175, ti192, ti193, ti195, ti196, ti228, ti233, ti237, ti242, ti244, ti247, ti249, ti250, ti255, ti256, ti257, ti259, ti260, ti261, ti265, trivial⟩)) t

theorem cl12 : callable Tryz.prog 12 = true := by kernel_rfl

theorem cl13 : callable Tryz.prog 13 = true := by kernel_rfl

theorem cl15 : callable Tryz.prog 15 = true := by kernel_rfl

theorem cl16 : callable Tryz.prog 16 = true := by kernel_rfl

theorem cl18 : callable Tryz.prog 18 = true := by kernel_rfl

theorem cl19 : callable Tryz.prog 19 = true := by kernel_rfl

theorem cl23 : callable Tryz.prog 23 = true := by kernel_rfl

theorem cl24 : callable Tryz.prog 24 = true := by kernel_rfl

theorem cl27 : callable Tryz.prog 27 = true := by kernel_rfl

theorem cl36 : callable Tryz.prog 36 = true := by kernel_rfl

theorem cl40 : callable Tryz.prog 40 = true := by kernel_rfl

theorem cl44 : callable Tryz.prog 44 = true := by kernel_rfl

theorem cl45 : callable Tryz.prog 45 = true := by kernel_rfl

theorem cl46 : callable Tryz.prog 46 = true := by kernel_rfl

theorem cl47 : callable Tryz.prog 47 = true := by kernel_rfl

theorem cl48 : callable Tryz.prog 48 = true := by kernel_rfl

theorem cl49 : callable Tryz.prog 49 = true := by kernel_rfl

theorem cl50 : callable Tryz.prog 50 = true := by kernel_rfl

theorem cl51 : callable Tryz.prog 51 = true := by kernel_rfl

theorem cl54 : callable Tryz.prog 54 = true := by kernel_rfl

theorem cl55 : callable Tryz.prog 55 = true := by kernel_rfl

theorem cl56 : callable Tryz.prog 56 = true := by kernel_rfl

theorem cl57 : callable Tryz.prog 57 = true := by kernel_rfl

theorem cl58 : callable Tryz.prog 58 = true := by kernel_rfl

theorem cl59 : callable Tryz.prog 59 = true := by kernel_rfl

theorem cl60 : callable Tryz.prog 60 = true := by kernel_rfl

theorem cl77 : callable Tryz.prog 77 = true := by kernel_rfl

theorem cl78 : callable Tryz.prog 78 = true := by kernel_rfl

theorem cl79 : callable Tryz.prog 79 = true := by kernel_rfl

theorem cl80 : callable Tryz.prog 80 = true := by kernel_rfl

theorem cl81 : callable Tryz.prog 81 = true := by kernel_rfl

theorem cl82 : callable Tryz.prog 82 = true := by kernel_rfl

theorem cl94 : callable Tryz.prog 94 = true := by kernel_rfl

theorem cl95 : callable Tryz.prog 95 = true := by kernel_rfl

theorem cl96 : callable Tryz.prog 96 = true := by kernel_rfl

theorem cl97 : callable Tryz.prog 97 = true := by kernel_rfl

theorem cl98 : callable Tryz.prog 98 = true := by kernel_rfl

theorem cl99 : callable Tryz.prog 99 = true := by kernel_rfl

theorem cl100 : callable Tryz.prog 100 = true := by kernel_rfl

theorem cl101 : callable Tryz.prog 101 = true := by kernel_rfl

theorem cl102 : callable Tryz.prog 102 = true := by kernel_rfl

theorem cl103 : callable Tryz.prog 103 = true := by kernel_rfl

theorem cl104 : callable Tryz.prog 104 = true := by kernel_rfl

theorem cl105 : callable Tryz.prog 105 = true := by kernel_rfl

theorem cl106 : callable Tryz.prog 106 = true := by kernel_rfl

theorem cl107 : callable Tryz.prog 107 = true := by kernel_rfl

theorem cl113 : callable Tryz.prog 113 = true := by kernel_rfl

theorem cl114 : callable Tryz.prog 114 = true := by kernel_rfl

theorem cl115 : callable Tryz.prog 115 = true := by kernel_rfl

theorem cl116 : callable Tryz.prog 116 = true := by kernel_rfl

theorem cl117 : callable Tryz.prog 117 = true := by kernel_rfl

theorem cl118 : callable Tryz.prog 118 = true := by kernel_rfl

theorem cl119 : callable Tryz.prog 119 = true := by kernel_rfl

theorem cl132 : callable Tryz.prog 132 = true := by kernel_rfl

theorem cl133 : callable Tryz.prog 133 = true := by kernel_rfl

theorem cl134 : callable Tryz.prog 134 = true := by kernel_rfl

theorem cl135 : callable Tryz.prog 135 = true := by kernel_rfl

theorem cl136 : callable Tryz.prog 136 = true := by kernel_rfl

theorem cl137 : callable Tryz.prog 137 = true := by kernel_rfl

theorem cl142 : callable Tryz.prog 142 = true := by kernel_rfl

theorem cl145 : callable Tryz.prog 145 = true := by kernel_rfl

theorem cl146 : callable Tryz.prog 146 = true := by kernel_rfl

theorem cl147 : callable Tryz.prog 147 = true := by kernel_rfl

theorem cl148 : callable Tryz.prog 148 = true := by kernel_rfl

theorem cl149 : callable Tryz.prog 149 = true := by kernel_rfl

theorem cl150 : callable Tryz.prog 150 = true := by kernel_rfl

theorem cl151 : callable Tryz.prog 151 = true := by kernel_rfl

theorem cl157 : callable Tryz.prog 157 = true := by kernel_rfl

theorem cl158 : callable Tryz.prog 158 = true := by kernel_rfl

theorem cl159 : callable Tryz.prog 159 = true := by kernel_rfl

theorem cl160 : callable Tryz.prog 160 = true := by kernel_rfl

theorem cl161 : callable Tryz.prog 161 = true := by kernel_rfl

theorem cl162 : callable Tryz.prog 162 = true := by kernel_rfl

theorem cl163 : callable Tryz.prog 163 = true := by kernel_rfl

theorem cl164 : callable Tryz.prog 164 = true := by kernel_rfl

theorem cl165 : callable Tryz.prog 165 = true := by kernel_rfl

theorem cl166 : callable Tryz.prog 166 = true := by kernel_rfl

theorem cl167 : callable Tryz.prog 167 = true := by kernel_rfl

theorem cl168 : callable Tryz.prog 168 = true := by kernel_rfl

theorem cl169 : callable Tryz.prog 169 = true := by kernel_rfl

theorem cl170 : callable Tryz.prog 170 = true := by kernel_rfl

theorem cl171 : callable Tryz.prog 171 = true := by kernel_rfl

theorem cl179 : callable Tryz.prog 179 = true := by kernel_rfl

theorem cl180 : callable Tryz.prog 180 = true := by kernel_rfl

theorem cl181 : callable Tryz.prog 181 = true := by kernel_rfl

theorem cl182 : callable Tryz.prog 182 = true := by kernel_rfl

theorem cl189 : callable Tryz.prog 189 = true := by kernel_rfl

theorem cl190 : callable Tryz.prog 190 = true := by kernel_rfl

theorem cl191 : callable Tryz.prog 191 = true := by kernel_rfl

theorem cl194 : callable Tryz.prog 194 = true := by kernel_rfl

theorem cl195 : callable Tryz.prog 195 = true := by kernel_rfl

theorem cl196 : callable Tryz.prog 196 = true := by kernel_rfl

theorem cl197 : callable Tryz.prog 197 = true := by kernel_rfl

theorem cl198 : callable Tryz.prog 198 = true := by kernel_rfl

theorem cl199 : callable Tryz.prog 199 = true := by kernel_rfl

theorem cl200 : callable Tryz.prog 200 = true := by kernel_rfl

theorem cl201 : callable Tryz.prog 201 = true := by kernel_rfl

theorem cl202 : callable Tryz.prog 202 = true := by kernel_rfl

theorem cl205 : callable Tryz.prog 205 = true := by kernel_rfl

theorem cl206 : callable Tryz.prog 206 = true := by kernel_rfl

theorem cl207 : callable Tryz.prog 207 = true := by kernel_rfl

theorem cl208 : callable Tryz.prog 208 = true := by kernel_rfl

end Go.Proofs.YtklclbcckjhdpaaGreat

namespace Go.Sx

open Go Go.RowKit

/-- The entries of a map, as pairs. -/
def prs (es : Array MapEntry) : List (Value × Value) := es.toList.map fun e => (e.key, e.val)

def kv {β : Type} (venc : β → Value) (ps : List (Int × β)) : List (Value × Value) := ps.map fun p => (.int .i64 p.1, venc p.2)

/-- Block r is a map that holds just these pairs; it is the call's own. -/
def mapIs {β : Type} (r : Nat) (venc : β → Value) (ps : List (Int × β)) (w : World) : Prop := ∃ es clock, w.heap[r]? = some (.map es clock) ∧ prs es = kv venc ps

theorem mapIs_st {β : Type} (r : Nat) (venc : β → Value) (ps : List (Int × β)) (w w' : World) (hb : ∀ b, b = r → w'.heap[b]? = w.heap[b]?) : mapIs r venc ps w → mapIs r venc ps w' :=
  fun ⟨es, clock, h1, h2⟩ => ⟨es, clock, by rw [hb r rfl]; exact h1, h2⟩

abbrev fMap {β : Type} (r : Nat) (venc : β → Value) (ps : List (Int × β)) : Fct := .other false true (fun b => b = r) (mapIs r venc ps) (mapIs_st r venc ps)

/-- The first pair with this key, and its place. -/
def aidx {β : Type} : List (Int × β) → Int → Option (Nat × β)
  | [], _ => none
  | (k, v) :: r, x => if k = x then some (0, v) else (aidx r x).map fun p => (p.1 + 1, p.2)

/-- The first pair with this key. -/
def aget {β : Type} : List (Int × β) → Int → Option β
  | [], _ => none
  | (k, v) :: r, x => if k = x then some v else aget r x

/-- The pair with this key has another value, or comes last. -/
def aset {β : Type} : List (Int × β) → Int → β → List (Int × β)
  | [], x, v => [(x, v)]
  | (k, u) :: r, x, v => if k = x then (k, v) :: r else (k, u) :: aset r x v

theorem aget_idx {β : Type} (ps : List (Int × β)) (x : Int) : aget ps x = (aidx ps x).map (·.2) := by
  induction ps with
  | nil => rfl
  | cons p r ih =>
    obtain ⟨k, v⟩ := p
    simp only [aget, aidx]
    split
    · rfl
    · rw [ih]; cases aidx r x <;> rfl

theorem aset_some {β : Type} : ∀ {ps : List (Int × β)} {x : Int} {j : Nat} {u : β} (v : β), aidx ps x = some (j, u) → aset ps x v = ps.set j (x, v) ∧ ps[j]? = some (x, u)
  | [], x, j, u, v, h => by simp [aidx] at h
  | (k, q) :: r, x, j, u, v, h => by
    simp only [aidx] at h
    split at h
    · rename_i hk
      simp at h
      obtain ⟨rfl, rfl⟩ := h
      subst hk
      simp [aset]
    · rename_i hk
      cases hi : aidx r x with
      | none => rw [hi] at h; simp at h
      | some p =>
        rw [hi] at h
        simp at h
        obtain ⟨rfl, rfl⟩ := h
        obtain ⟨h1, h2⟩ := aset_some v hi
        simp [aset, hk, h1, h2]

theorem aset_none {β : Type} : ∀ {ps : List (Int × β)} {x : Int} (v : β), aidx ps x = none → aset ps x v = ps ++ [(x, v)]
  | [], x, v, h => rfl
  | (k, q) :: r, x, v, h => by
    simp only [aidx] at h
    split at h
    · cases h
    · rename_i hk
      cases hi : aidx r x with
      | none => simp [aset, hk, aset_none v hi]
      | some p => rw [hi] at h; simp at h

theorem findNow_int {β : Type} (venc : β → Value) (q : IntKind) (x : Int) : ∀ (es : List MapEntry) (ps : List (Int × β)) (i : Nat), es.map (fun e => (e.key, e.val)) = kv venc ps →
    Instr.findNow (.int q) (.int .i64 x) es i = some ((aidx ps x).map fun p => (i + p.1, venc p.2))
  | [], ps, i, h => by
    cases ps with
    | nil => rfl
    | cons p r => simp [kv] at h
  | e :: es, ps, i, h => by
    cases ps with
    | nil => simp [kv] at h
    | cons p r =>
      obtain ⟨k, v⟩ := p
      simp only [kv, List.map_cons, List.cons.injEq, Prod.mk.injEq] at h
      obtain ⟨⟨h1, h2⟩, h3⟩ := h
      have ih := findNow_int venc q x es r (i + 1) h3
      simp only [Instr.findNow, h1, Instr.sameNow, if_true, aidx]
      by_cases hk : x = k
      · subst hk
        simp [h2]
      · have hk' : ¬ k = x := fun e => hk e.symm
        have hb : (x == k) = false := by simpa using hk
        simp only [hb, ih, hk', if_false]
        cases aidx r x with
        | none => rfl
        | some p => simp [Nat.add_assoc, Nat.add_comm 1 p.1]

theorem run_getObj_map' {P : Program} {w : World} {r : Nat} {es : Array MapEntry} {clock : Nat} (h : w.heap[r]? = some (.map es clock)) : (getObj r).run P w = .ok (.map es clock) w := by
  simp [getObj, Sem.run, h]

theorem run_setObj_map' {P : Program} {w : World} {r : Nat} {es : Array MapEntry} {clock : Nat} (h : w.heap[r]? = some (.map es clock)) (o : Obj) : (setObj r o).run P w = .ok () { w with heap := w.heap.setIfInBounds r o } := by
  simp [setObj, Sem.run, h]

theorem run_checkKey_int {P : Program} {t : TypeId} {q : IntKind} (h : P.underlying t = some (.int q)) (b : Bool) (x : Int) (w : World) : (Instr.checkKey b 10000 t (.int .i64 x)).run P w = .ok () w := by
  show (Instr.checkKey b (9999 + 1) t (.int .i64 x)).run P w = _
  unfold Instr.checkKey
  simp [underlying, h]

theorem run_findKey_int {β : Type} {P : Program} {t : TypeId} {q : IntKind} (h : P.underlying t = some (.int q)) (venc : β → Value) (x : Int) (es : Array MapEntry) (ps : List (Int × β)) (he : prs es = kv venc ps) (w : World) :
    (Instr.findKey t (.int .i64 x) es.toList).run P w = .ok ((aidx ps x).map fun p => (p.1, venc p.2)) w := by
  have := findNow_int venc q x es.toList ps 0 he
  simp only [Nat.zero_add] at this
  simp [Instr.findKey, underlying, h, this]

section

variable {E : Env} {ti : Nat → TI} {A : Nat → Nat} {T : List (Nat × SV)} {n c : Nat} {B : List (Nat × TypeId × Nat)} {M : List ((Nat × Nat) × SV)} {F : List Fct} {o : Oper} {next : St → Prop}

/-- make(map..) -/
theorem stop_makeMap {β : Type} (venc : β → Value) {t : TypeId} {d : Nat} (hop : o.op = .makeMap t none) (hd : Dst E o d)
    (hnext : ∀ r : Nat, next (.mk ((d, .v (.map (some r))) :: T) n (c + 1) B M (fMap r venc ([] : List (Int × β)) :: F))) : OpW (opStop E o next T n c B M F) := by
  refine ⟨fun A a w hW hT => ?_⟩
  have hr : (execOp a.eval o).run E.P w = .ok (.value (.map (some w.heap.size))) (w.alloc (.map #[] 0)) := by
    simp [execOp, hop, Instr.makeMap]
  refine upon_of_value hr ?_
  rw [hd.1]
  refine ⟨_, ⟨_, hW.learn (Ext.alloc w _) (L := [fMap w.heap.size venc ([] : List (Int × β))]) ⟨fun f hf => ?_, List.pairwise_singleton _ _⟩, (hT.step _).put (v := .v (.map (some w.heap.size))) hd.lt trivial⟩, hnext _⟩
  simp only [List.mem_singleton] at hf
  subst hf
  refine ⟨⟨#[], 0, heap_alloc_new w _, rfl⟩, rfl, ?_⟩
  rintro b rfl
  simp

/-- m[k] -/
theorem stop_lookup {β : Type} {venc : β → Value} (k1 : Nat) {t kt et : TypeId} {x y : Operand} {r : Nat} {q : Int} {ps : List (Int × β)} {d : Nat} {z : Value} {qk : IntKind}
    (hop : o.op = .lookup t x y false) (hx : evalO T x = some (.v (.map (some r)))) (hy : evalO T y = some (.v (.int .i64 q))) (hF : F[k1]? = some (fMap r venc ps)) (hd : Dst E o d)
    (ht : E.P.underlying t = some (.map kt et)) (hkt : E.P.underlying kt = some (.int qk)) (hz : (E.P.info? et).bind (·.zero) = some z) (rv : Value) (hrv : (match aget ps q with | some v => venc v | none => z) = rv)
    (hnext : next (.mk ((d, .v rv) :: T) n c B M F)) : OpW (opStop E o next T n c B M F) := by
  subst hrv
  refine ⟨fun A a w hW hT => ?_⟩
  obtain ⟨es, clock, h1, h2⟩ := (hW.nth k1 hF).1
  have hr : (execOp a.eval o).run E.P w = .ok (.value (match aget ps q with | some v => venc v | none => z)) w := by
    have hx' := (evalO_sound hT hx).1
    have hy' := (evalO_sound hT hy).1
    simp only [SV.den] at hx' hy'
    rw [aget_idx]
    simp only [execOp, hop, hx', hy', Instr.lookup, Sem.run_bind, underlying, run_program, Result.andThen_ok, ht, Sem.run_pure, run_getObj_map' h1, run_checkKey_int hkt, run_findKey_int hkt venc q es ps h2]
    cases aidx ps q with
    | none =>
      cases hi : E.P.info? et with
      | none => rw [hi] at hz; simp at hz
      | some i =>
        rw [hi] at hz
        simp at hz
        simp [zeroValue, typeInfo, hi, hz]
    | some p => simp
  refine upon_of_value hr ?_
  rw [hd.1]
  exact ⟨_, ⟨_, hW, hT.put (v := .v (match aget ps q with | some v => venc v | none => z)) hd.lt trivial⟩, hnext⟩

/-- An own fact that is no slice's is replaced: the block has been written. -/
theorem WD.turnMap {w : World} (h : WD E A n B M F w) {β : Type} {venc : β → Value} {k r : Nat} {ps qs : List (Int × β)} (hk : F[k]? = some (fMap r venc ps)) (o : Obj)
    (hnew : mapIs r venc qs { w with heap := w.heap.setIfInBounds r o }) : WD E A n B M (fMap r venc qs :: F.eraseIdx k) { w with heap := w.heap.setIfInBounds r o } := by
  have hfk := h.fct _ (List.mem_of_getElem? hk)
  have hsub := h.sub (eraseIdx_sub F k)
  have hdj := pairwise_nth_erase h.dj hk
  have hX : ExtX (fun b => b = r) w { w with heap := w.heap.setIfInBounds r o } := by
    refine ⟨rfl, rfl, rfl, by simp, fun b _ hb => ?_⟩
    have hb' : ¬ r = b := fun e => hb e.symm
    show (w.heap.setIfInBounds r o)[b]? = w.heap[b]?
    rw [Array.getElem?_setIfInBounds, if_neg hb']
  have hW' : WD E A n B M (F.eraseIdx k) { w with heap := w.heap.setIfInBounds r o } := by
    refine hsub.grow hX (fun k' ty sz' hk' e => (hfk.2.1 r rfl).2 k' ty sz' hk' e) (fun f hf b hb e => hdj f hf (.inl rfl) r rfl (e ▸ hb)) (fun b hb e => ?_)
    exact (hfk.2.2 rfl b e).resolve_left (by omega)
  refine ⟨hW'.key, hW'.inj, hW'.mem, hW'.a0, hW'.n0, hW'.ext, ?_, ?_⟩
  · intro f hf
    rcases List.mem_cons.1 hf with rfl | hf
    · exact ⟨hnew, fun b hb => ⟨by simpa using (hfk.2.1 b hb).1, (hfk.2.1 b hb).2⟩, hfk.2.2⟩
    · exact hW'.fct f hf
  · rw [List.pairwise_cons]
    exact ⟨fun g hg ho b hb hb' => hdj g hg (.inl rfl) b hb hb', hW'.dj⟩

/-- m[k] = v -/
theorem stop_mapset {β : Type} {venc : β → Value} (k1 : Nat) (v : β) {t kt et : TypeId} {x y z : Operand} {r : Nat} {q : Int} {ps : List (Int × β)} {qk : IntKind} {s : SV}
    (hop : o.op = .mapUpdate t x y z) (hx : evalO T x = some (.v (.map (some r)))) (hy : evalO T y = some (.v (.int .i64 q))) (hz : evalO T z = some s) (hs : ∀ A, s.den A = venc v) (hF : F[k1]? = some (fMap r venc ps)) (hd : o.dst = none)
    (ht : E.P.underlying t = some (.map kt et)) (hkt : E.P.underlying kt = some (.int qk)) (qs : List (Int × β)) (hqs : aset ps q v = qs)
    (hnext : next (.mk T n (c + 1) B M (fMap r venc qs :: F.eraseIdx k1))) : OpW (opStop E o next T n c B M F) := by
  subst hqs
  refine ⟨fun A a w hW hT => ?_⟩
  obtain ⟨es, clock, h1, h2⟩ := (hW.nth k1 hF).1
  have hx' := (evalO_sound hT hx).1
  have hy' := (evalO_sound hT hy).1
  have hz' := (evalO_sound hT hz).1.trans (hs A)
  simp only [SV.den] at hx' hy'
  have hlt : r < w.heap.size := (Array.getElem?_eq_some_iff.1 h1).1
  have key : ∃ ob, (execOp a.eval o).run E.P w = .ok .skip { w with heap := w.heap.setIfInBounds r ob } ∧ mapIs r venc (aset ps q v) { w with heap := w.heap.setIfInBounds r ob } := by
    cases hi : aidx ps q with
    | none =>
      refine ⟨.map (es.push { key := .int .i64 q, val := venc v, born := clock }) (clock + 1), ?_, ?_⟩
      · simp only [execOp, hop, hx', hy', hz', Instr.mapUpdate, Sem.run_bind, underlying, run_program, Result.andThen_ok, ht, Sem.run_pure, run_getObj_map' h1, run_checkKey_int hkt, run_findKey_int hkt venc q es ps h2, hi, Option.map_none, run_setObj_map' h1]
      · refine ⟨es.push { key := .int .i64 q, val := venc v, born := clock }, clock + 1, by simp [hlt], ?_⟩
        rw [aset_none v hi]
        simp only [prs, Array.toList_push, List.map_append, kv] at h2 ⊢
        rw [h2]; rfl
    | some p =>
      obtain ⟨j, u⟩ := p
      obtain ⟨g1, g2⟩ := aset_some v hi
      have hkey : (es[j]?).map (·.key) = some (.int .i64 q) := by
        have := congrArg (fun l => l[j]?) h2
        simp only [prs, kv, List.getElem?_map, g2, Option.map_some, Array.getElem?_toList] at this
        cases he : es[j]? with
        | none => rw [he] at this; simp at this
        | some e => rw [he] at this; simp at this; simp [this.1]
      refine ⟨.map (es.modify j fun e => { e with key := .int .i64 q, val := venc v }) clock, ?_, ?_⟩
      · have hks : (Instr.keyThatStays (.int .i64 q) (.int .i64 q)).run E.P w = .ok (.int .i64 q) w := by
          have hsb : Instr.sameBits 10000 (.int .i64 q) (.int .i64 q) = true := by
            show Instr.sameBits (9999 + 1) (.int .i64 q) (.int .i64 q) = true
            simp [Instr.sameBits]
          simp [Instr.keyThatStays, hsb]
        simp only [execOp, hop, hx', hy', hz', Instr.mapUpdate, Sem.run_bind, underlying, run_program, Result.andThen_ok, ht, Sem.run_pure, run_getObj_map' h1, run_checkKey_int hkt, run_findKey_int hkt venc q es ps h2, hi, Option.map_some, hkey, Option.getD_some, hks, run_setObj_map' h1]
      · refine ⟨es.modify j fun e => { e with key := .int .i64 q, val := venc v }, clock, by simp [hlt], ?_⟩
        rw [g1]
        simp only [prs, kv, Array.toList_modify, List.map_set] at h2 ⊢
        rw [← h2]
        apply List.ext_getElem?
        intro k
        simp only [List.getElem?_map, List.getElem?_modify, List.getElem?_set]
        by_cases e : j = k
        · subst e
          simp only [if_true]
          cases he : es.toList[j]? with
          | none =>
            have : es[j]? = none := by simpa using he
            rw [this] at hkey; simp at hkey
          | some x =>
            have hl : j < es.size := by simpa using (List.getElem?_eq_some_iff.1 he).1
            simp [hl]
        · simp [e]
  obtain ⟨ob, h3, h4⟩ := key
  refine upon_of_skip h3 ?_
  rw [hd]
  exact ⟨_, ⟨_, hW.turnMap hF ob h4, hT.step _⟩, hnext⟩

end

end Go.Sx

namespace Go.Sx

open Go Go.RowKit

structure BothW (p q : Prop) : Prop where
  l : p
  r : q

inductive GSt where
  | go
  | no
  | unk (t : Nat) (b : Bool)
  | bad

def guardSt (ops : List Oper) (T : List (Nat × SV)) : Option (Nat × Bool) → GSt
  | none => .go
  | some (j, want) => match gval ops T j with
    | some (_, .lit b) => (match b, want with
      | true, true => .go
      | false, false => .go
      | true, false => .no
      | false, true => .no)
    | some (t, .v (.bool b)) => .unk t b
    | some (_, .v (.tuple _)) => .no
    | _ => .bad

def isIdx : Op → Bool
  | .indexAddr .. => true
  | .binOp .. => true
  | .slice .. => true
  | _ => false

inductive Pick where
  | pure (i : Nat) (d : Option Nat) (s : SV)
  | skip (i : Nat) (d : Option Nat)
  | split (t : Nat) (b : Bool)
  | idx (i : Nat) (o : Oper)
  | none

def pickFrom (ti : Nat → TI) (ops : List Oper) (T : List (Nat × SV)) (c : Nat) (Ms : List ((Nat × Nat) × SV)) : List Nat → Pick
  | [] => .none
  | i :: r => match nth ops i with
    | some o => (match guardSt ops T o.guard with
      | .go => (match pureV ti T c Ms o.op with
        | some s => .pure i o.dst s
        | none => (match isIdx o.op with
          | true => .idx i o
          | false => pickFrom ti ops T c Ms r))
      | .no => .skip i o.dst
      | .unk t b => .split t b
      | .bad => pickFrom ti ops T c Ms r)
    | none => pickFrom ti ops T c Ms r

def allR : List Nat → (Nat → Prop) → Prop
  | [], _ => True
  | [i], p => p i
  | i :: r, p => BothW (p i) (allR r p)

theorem allR_mem : ∀ {l : List Nat} {p : Nat → Prop}, allR l p → ∀ i ∈ l, p i
  | [], _, _, i, hi => by cases hi
  | [x], _, h, i, hi => by simp at hi; subst hi; exact h
  | x :: y :: r, _, h, i, hi => by
    obtain ⟨h1, h2⟩ := h
    rcases List.mem_cons.1 hi with rfl | hi
    · exact h1
    · exact allR_mem h2 i hi

def noKey : List ((Nat × Nat) × SV) → Nat → Nat → Nat → Bool
  | [], _, _, _ => true
  | ((k, o), _) :: r, k', o', l => match Nat.beq k k' with
    | true => (match Nat.blt o o' with
      | true => noKey r k' o' l
      | false => (match Nat.blt o (o' + l) with
        | true => false
        | false => noKey r k' o' l))
    | false => noKey r k' o' l

theorem noKey_ok : ∀ {M : List ((Nat × Nat) × SV)} {k o l : Nat}, noKey M k o l = true → ∀ k' o' v, lookM M k' o' = some v → ¬ (k = k' ∧ o ≤ o' ∧ o' < o + l)
  | [], _, _, _, _, k', o', v, h => by simp [lookM] at h
  | ((a, b), x) :: r, k, o, l, h, k', o', v, hv => by
    rw [lookM_cons] at hv
    simp only [noKey] at h
    by_cases e : a = k' ∧ b = o'
    · obtain ⟨rfl, rfl⟩ := e
      split at h
      · rename_i hk
        have hk := Nat.eq_of_beq_eq_true hk
        split at h
        · rename_i hb
          have : b < o := by simpa using hb
          omega
        · split at h
          · cases h
          · rename_i hb
            have : ¬ b < o + l := fun h => by rw [show Nat.blt b (o + l) = true from by simpa using h] at hb; cases hb
            omega
      · rename_i hk
        have : ¬ a = k := fun e => by subst e; rw [Nat.beq_refl] at hk; cases hk
        omega
    · simp only [e, if_false] at hv
      split at h
      · split at h
        · exact noKey_ok h k' o' v hv
        · split at h
          · cases h
          · exact noKey_ok h k' o' v hv
      · exact noKey_ok h k' o' v hv

def keepF (Fs F : List Fct) : Prop := ∀ f ∈ Fs, f ∈ F

def keepM (Ms M : List ((Nat × Nat) × SV)) : Prop := ∀ k o v, lookM Ms k o = some v → lookM M k o = some v

/-- An operation that asks for a law, in a region that draws. -/
def opD (E : Env) (o : Oper) (Ms : List ((Nat × Nat) × SV)) (Fs : List Fct) (next : St → Prop) (T : List (Nat × SV)) (n c : Nat) (B : List (Nat × TypeId × Nat)) (M : List ((Nat × Nat) × SV)) (F : List Fct) : Prop :=
  keepM Ms M → keepF Fs F → ∀ A a w, WD E A n B M F w → TD E A T n c a w → o.wp E.P a w (fun a' w' => ∃ A' T' n' c' B' M' F', (∀ k, k < n → A' k = A k) ∧ n ≤ n' ∧ (∀ x ∈ B, x ∈ B') ∧ keepM Ms M' ∧ keepF Fs F' ∧ WD E A' n' B' M' F' w' ∧ (∀ w2, TD E A' T' n' c' a' w2) ∧ next (.mk T' n' c' B' M' F')) (fun _ _ _ => False)

/-- The same, where no block is made or written. -/
def opD0 (E : Env) (o : Oper) (Fs : List Fct) (next : St → Prop) (T : List (Nat × SV)) (n c : Nat) (B : List (Nat × TypeId × Nat)) (M : List ((Nat × Nat) × SV)) (F : List Fct) : Prop :=
  keepF Fs F → ∀ A a w, WD E A n B M F w → TD E A T n c a w → o.wp E.P a w (fun a' w' => ∃ T' c' F', WD E A n B M F' w' ∧ (∀ w2, TD E A T' n c' a' w2) ∧ keepF Fs F' ∧ next (.mk T' n c' B M F')) (fun _ _ _ => False)

theorem opD0.up {E : Env} {o : Oper} {Ms : List ((Nat × Nat) × SV)} {Fs : List Fct} {next : St → Prop} {T : List (Nat × SV)} {n c : Nat} {B : List (Nat × TypeId × Nat)} {M : List ((Nat × Nat) × SV)} {F : List Fct} (h : opD0 E o Fs next T n c B M F) : opD E o Ms Fs next T n c B M F := by
  intro hm hf A a w hW hT
  have := h hf A a w hW hT
  refine Oper.wp_mono (Q := fun _ _ _ => False) ?_ this
  rintro a' w' ⟨T', c', F', h1, h2, h3, h4⟩
  exact ⟨A, T', n, c', B, M, F', fun _ _ => rfl, Nat.le_refl _, fun _ h => h, hm, h3, h1, h2, h4⟩

def effD (E : Env) (ti : Nat → TI) (o : Oper) (Ms : List ((Nat × Nat) × SV)) (Fs : List Fct) (next : St → Prop) (T : List (Nat × SV)) (n c : Nat) (B : List (Nat × TypeId × Nat)) (M : List ((Nat × Nat) × SV)) (F : List Fct) : Op → Prop
  | .alloc t => (match ti t with
    | .mk _ sz zero _ _ _ _ _ => (match o.dst with
      | some d => (match Nat.blt d E.N with
        | true => (match Nat.beq (listLen zero) sz with
          | true => storeK n 0 (zero.map .v) M fun M' => next (.mk ((d, .p n 0) :: T) (n + 1) (c + 1) ((n, t, sz) :: B) M' F)
          | false => False)
        | false => False)
      | none => False)
    | .none => False)
  | .load t x => (match pLoad (ti t) T c M x with
    | some s => (match o.dst with
      | some d => (match Nat.blt d E.N with
        | true => (match s with
          | .e .. => False
          | s => next (.mk ((d, s) :: T) n (c + 1) B M F))
        | false => False)
      | none => False)
    | none => OpW (opD E o Ms Fs next T n c B M F))
  | .store t x y => (match o.dst with
    | some _ => False
    | none => (match evalO T x with
      | some (.p k off) => (match ti t with
        | .mk _ sz _ _ _ _ _ _ => (match evalO T y with
          | some s => (match cellsSV s with
            | some l => (match Nat.beq (listLen l) sz with
              | true => (match lookB B k with
                | some bsz => (match Nat.ble (off + sz) bsz with
                  | true => (match noKey Ms k off sz with
                    | true => storeK k off l M fun M' => next (.mk T n (c + 1) B M' F)
                    | false => False)
                  | false => False)
                | none => False)
              | false => False)
            | none => False)
          | none => False)
        | .none => False)
      | _ => OpW (opD E o Ms Fs next T n c B M F)))
  | .buildSlice t len ps => (match ti t with
    | .mk _ _ _ _ (some e) _ _ _ => (match ti e with
      | .mk _ esz _ _ _ _ _ _ => (match o.dst with
        | some d => (match Nat.blt d E.N with
          | true => (match Nat.beq (listLen ps.toList) len with
            | true => (match Nat.ble (len * esz + len) 16777216 with
              | true => (match bParts T esz 0 ps.toList with
                | some cs => AllSl fun y => next (.mk ((d, .v (y.val len)) :: T) n (c + 1) B M (fOwn false y e esz cs len :: F))
                | none => False)
              | false => False)
            | false => False)
          | false => False)
        | none => False)
      | .none => False)
    | _ => False)
  | _ => OpW (opD E o Ms Fs next T n c B M F)

/-- What has come up: structural twins of the model's questions. -/
def nthB : List Bool → Nat → Bool
  | [], _ => false
  | b :: _, 0 => b
  | _ :: r, n + 1 => nthB r n

def setB : List Bool → Nat → List Bool
  | [], _ => []
  | _ :: r, 0 => true :: r
  | b :: r, n + 1 => b :: setB r n

def falses : List Oper → List Bool
  | [] => []
  | _ :: r => false :: falses r

def rdyE (L : List Bool) : List Edge → Bool
  | [] => true
  | e :: r => match e.ground with
    | .textOnly _ => rdyE L r
    | .gcOnly _ => rdyE L r
    | _ => (match nthB L e.on with
      | true => rdyE L r
      | false => false)

def readyB (L : List Bool) : Nat → List Oper → List Bool → List Nat
  | k, o :: r, b :: l => (match b with
    | true => readyB L (k + 1) r l
    | false => (match rdyE L o.after.toList with
      | true => k :: readyB L (k + 1) r l
      | false => readyB L (k + 1) r l))
  | _, _, _ => []

def hasEdge (o : Oper) (i : Nat) : Bool := o.after.any fun e => Region.binds .any e && e.on == i

def apartAll (ops : Array Oper) : Bool := (List.range ops.size).all fun i => (List.range ops.size).all fun j => match ops[i]?, ops[j]? with
  | some x, some y => i == j || hasEdge x j || hasEdge y i || x.apart ops y
  | _, _ => true

theorem nthB_eq : ∀ (L : List Bool) (i : Nat), nthB L i = L.toArray.getD i false
  | [], i => by simp [nthB]
  | b :: r, 0 => by simp [nthB]
  | b :: r, i + 1 => by rw [nthB, nthB_eq r i]; simp [Array.getD_eq_getD_getElem?]

theorem setB_eq : ∀ (L : List Bool) (i : Nat), setB L i = L.set i true
  | [], i => by simp [setB]
  | b :: r, 0 => by simp [setB]
  | b :: r, i + 1 => by rw [setB, setB_eq r i]; simp

theorem falses_eq : ∀ (l : List Oper), falses l = List.replicate l.length false
  | [] => rfl
  | _ :: r => by rw [falses, falses_eq r, List.length_cons, List.replicate_succ]

theorem rdyE_eq (L : List Bool) : ∀ (es : List Edge), rdyE L es = true ↔ ∀ e ∈ es, Region.binds .any e = true → L.toArray.getD e.on false = true
  | [] => by simp [rdyE]
  | e :: r => by
    rw [List.forall_mem_cons, ← rdyE_eq L r, ← nthB_eq]
    have e1 : (Region.Mode.any == Region.Mode.text) = false := rfl
    have e2 : (Region.Mode.any == Region.Mode.gc) = false := rfl
    cases hg : e.ground <;> cases hn : nthB L e.on <;> simp [rdyE, Region.binds, hg, hn, e1, e2]

theorem mem_readyB' (L : List Bool) : ∀ (ops : List Oper) (l : List Bool) (k i : Nat), i ∈ readyB L k ops l ↔ ∃ j, i = k + j ∧ l[j]? = some false ∧ ∃ o, ops[j]? = some o ∧ rdyE L o.after.toList = true
  | [], l, k, i => by cases l <;> simp [readyB]
  | o :: r, [], k, i => by simp [readyB]
  | o :: r, b :: l, k, i => by
    have ih := mem_readyB' L r l (k + 1) i
    have e : (∃ j, i = k + j ∧ (b :: l)[j]? = some false ∧ ∃ x, (o :: r)[j]? = some x ∧ rdyE L x.after.toList = true) ↔ (i = k ∧ b = false ∧ rdyE L o.after.toList = true) ∨ (∃ j, i = k + 1 + j ∧ l[j]? = some false ∧ ∃ x, r[j]? = some x ∧ rdyE L x.after.toList = true) := by
      constructor
      · rintro ⟨j, h1, h2, x, h3, h4⟩
        cases j with
        | zero =>
          simp only [List.getElem?_cons_zero, Option.some.injEq] at h2 h3
          subst h3
          exact .inl ⟨h1, h2, h4⟩
        | succ j => exact .inr ⟨j, by omega, by simpa using h2, x, by simpa using h3, h4⟩
      · rintro (⟨h1, h2, h3⟩ | ⟨j, h1, h2, x, h3, h4⟩)
        · exact ⟨0, h1, by simp [h2], o, by simp, h3⟩
        · exact ⟨j + 1, by omega, by simpa using h2, x, by simpa using h3, h4⟩
    rw [e, ← ih]
    cases b with
    | true => simp [readyB]
    | false => cases hr : rdyE L o.after.toList <;> simp [readyB, hr]

theorem mem_readyB {L : List Bool} {ops : List Oper} {i : Nat} : i ∈ readyB L 0 ops L ↔ i ∈ Region.ready .any ops.toArray L.toArray := by
  rw [mem_readyB', mem_ready]
  constructor
  · rintro ⟨j, h1, h2, o, h3, h4⟩
    obtain rfl : i = j := by omega
    exact ⟨by simp [Array.getD_eq_getD_getElem?, h2], o, by simpa using h3, fun e he => (rdyE_eq L _).1 h4 e (by simpa using he)⟩
  · rintro ⟨h2, o, h3, h4⟩
    refine ⟨i, by omega, ?_, o, by simpa using h3, (rdyE_eq L _).2 fun e he => h4 e (by simpa using he)⟩
    rw [Array.getD_eq_getD_getElem?] at h2
    simp only [List.getElem?_toArray] at h2
    cases hx : L[i]? with
    | none => rw [hx] at h2; simp at h2
    | some b => rw [hx] at h2; simp at h2; rw [h2]

theorem free_of_apart {ops : List Oper} (h : apartAll ops.toArray = true) {L : List Bool} {i : Nat} (hi : i ∈ Region.ready .any ops.toArray L.toArray) : Region.free .any ops.toArray L.toArray i = true := by
  obtain ⟨h1, o, h2, h3⟩ := mem_ready.1 hi
  unfold Region.free
  rw [h2]
  simp only [List.all_eq_true]
  intro j hj
  have hil : i < ops.toArray.size := (Array.getElem?_eq_some_iff.1 h2).1
  simp only [apartAll, List.all_eq_true] at h
  have hij := h i (by simpa using hil) j hj
  rw [h2] at hij
  cases hjo : ops.toArray[j]? with
  | none => simp
  | some oj =>
    rw [hjo] at hij
    simp only [Bool.or_eq_true] at hij ⊢
    rcases hij with ((hij | hij) | hij) | hij
    · exact .inl (.inl (by simp only [beq_iff_eq] at hij ⊢; exact hij.symm))
    · left; right
      simp only [hasEdge, Array.any_eq_true', Bool.and_eq_true, beq_iff_eq] at hij
      obtain ⟨e, he, hb, rfl⟩ := hij
      have := h3 e he hb
      rw [Array.getD_eq_getD_getElem?] at this ⊢
      cases hx : L.toArray[e.on]? with
      | none => rw [hx] at this; simp at this
      | some b => rw [hx] at this; simp at this; simp [this]
    · right; left; exact hij
    · right; right; exact hij

/-- The region: fuel, what has come up, the state. -/
def vcD (E : Env) (ti : Nat → TI) (ops : List Oper) (n0 : Nat) (B0 : List (Nat × TypeId × Nat)) (Ms : List ((Nat × Nat) × SV)) (Fs : List Fct) (K : St → Prop) : Nat → List Bool → St → Prop
  | 0, _, _ => False
  | f + 1, L, .mk T n c B M F => match pickFrom ti ops T c Ms (readyB L 0 ops L) with
    | .pure i d s => (match d with
        | some d => (match Nat.blt d E.N with
          | true => vcD E ti ops n0 B0 Ms Fs K f (setB L i) (.mk ((d, s) :: T) n c B M F)
          | false => False)
        | none => vcD E ti ops n0 B0 Ms Fs K f (setB L i) (.mk T n c B M F))
    | .skip i d => (match d with
        | some d => (match Nat.blt d E.N with
          | true => vcD E ti ops n0 B0 Ms Fs K f (setB L i) (.mk ((d, .v undef) :: T) n c B M F)
          | false => False)
        | none => vcD E ti ops n0 B0 Ms Fs K f (setB L i) (.mk T n c B M F))
    | .split t b => CaseB b (vcD E ti ops n0 B0 Ms Fs K f L (.mk ((t, .lit true) :: T) n c B M F)) (vcD E ti ops n0 B0 Ms Fs K f L (.mk ((t, .lit false) :: T) n c B M F))
    | .idx i o => OpW (∀ A, ∃ s : SV, (∀ a w, WD E A n0 B0 Ms Fs w → TD E A T n c a w → (execOp a.eval o).run E.P w = .ok (.value (s.den A)) w ∧ s.okT n c w) ∧ (∃ d, Dst E o d ∧ vcD E ti ops n0 B0 Ms Fs K f (setB L i) (.mk ((d, s) :: T) n c B M F)))
    | .none => (match readyB L 0 ops L with
      | [] => K (.mk T n c B M F)
      | i :: r => allR (i :: r) fun i => match nth ops i with
        | some o => (match guardSt ops T o.guard with
          | .go => effD E ti o Ms Fs (fun s' => vcD E ti ops n0 B0 Ms Fs K f (setB L i) s') T n c B M F o.op
          | _ => False)
        | none => False)

section

variable {E : Env} {ti : Nat → TI}

theorem den_agree {A A' : Nat → Nat} {n : Nat} (h : ∀ k, k < n → A k = A' k) {v : SV} (hv : v.small n) : v.den A = v.den A' := by
  cases v with
  | p k o => simp [SV.den, ptr, h k hv]
  | f g cap =>
    simp only [SV.den]
    congr 2
    apply List.map_congr_left
    intro x hx
    simp [ptr, h x.1 (hv x hx)]
  | _ => rfl

theorem WD.agree {A A' : Nat → Nat} {n : Nat} {B : List (Nat × TypeId × Nat)} {M : List ((Nat × Nat) × SV)} {F : List Fct} {w : World} (h : WD E A n B M F w) (ha : ∀ k, k < n → A k = A' k) : WD E A' n B M F w := by
  refine ⟨?_, ?_, ?_, ?_, h.n0, h.ext, ?_, h.dj⟩
  · intro k ty sz hk
    have := h.key k ty sz hk
    rw [ha k this.1] at this
    exact this
  · intro k ty sz k' ty' sz' hk hk' e
    rw [← ha k (h.key _ _ _ hk).1, ← ha k' (h.key _ _ _ hk').1] at e
    exact h.inj _ _ _ _ _ _ hk hk' e
  · intro k o v hv
    obtain ⟨⟨ty, sz, hk⟩, h2, h3⟩ := h.mem k o v hv
    refine ⟨⟨ty, sz, hk⟩, ?_, h3⟩
    rw [← ha k (h.key _ _ _ hk).1, ← den_agree ha h3]
    exact h2
  · intro k hk
    rw [← ha k (Nat.lt_of_lt_of_le hk h.n0)]
    exact h.a0 k hk
  · intro f hf
    obtain ⟨h1, h2, h3⟩ := h.fct f hf
    exact ⟨h1, fun b hb => ⟨(h2 b hb).1, fun k ty sz hk => by rw [← ha k (h.key _ _ _ hk).1]; exact (h2 b hb).2 k ty sz hk⟩, h3⟩

/-- How the state at hand stands to the one at the region's beginning. -/
structure InvD (E : Env) (A0 : Nat → Nat) (n0 : Nat) (B0 : List (Nat × TypeId × Nat)) (Ms : List ((Nat × Nat) × SV)) (Fs : List Fct) (A : Nat → Nat) (n : Nat) (B : List (Nat × TypeId × Nat)) (M : List ((Nat × Nat) × SV)) (F : List Fct) (w : World) : Prop where
  ag : ∀ k, k < n0 → A k = A0 k
  hn : n0 ≤ n
  hb : ∀ x ∈ B0, x ∈ B
  hm : ∀ k o v, lookM Ms k o = some v → lookM M k o = some v
  hf : keepF Fs F
  hw : WD E A n B M F w

theorem InvD.start {A0 A : Nat → Nat} {n0 n : Nat} {B0 B : List (Nat × TypeId × Nat)} {Ms M : List ((Nat × Nat) × SV)} {Fs F : List Fct} {w ws : World} (h : InvD E A0 n0 B0 Ms Fs A n B M F w) (hs : WD E A0 n0 B0 Ms Fs ws) : WD E A0 n0 B0 Ms Fs w := by
  refine ⟨?_, ?_, ?_, hs.a0, hs.n0, h.hw.ext, ?_, hs.dj⟩
  · intro k ty sz hk
    obtain ⟨h1, _⟩ := hs.key k ty sz hk
    obtain ⟨_, h2⟩ := h.hw.key k ty sz (h.hb _ hk)
    rw [h.ag k h1] at h2
    exact ⟨h1, h2⟩
  · exact hs.inj
  · intro k o v hv
    obtain ⟨⟨ty, sz, hk⟩, _, h3⟩ := hs.mem k o v hv
    refine ⟨⟨ty, sz, hk⟩, ?_, h3⟩
    have := (h.hw.mem k o v (h.hm k o v hv)).2.1
    rw [h.ag k (hs.key _ _ _ hk).1, den_agree h.ag h3] at this
    exact this
  · intro f hf
    obtain ⟨h1, h2, h3⟩ := h.hw.fct f (h.hf f hf)
    exact ⟨h1, fun b hb => ⟨(h2 b hb).1, fun k ty sz hk => by rw [← h.ag k (hs.key _ _ _ hk).1]; exact (h2 b hb).2 k ty sz (h.hb _ hk)⟩, h3⟩

/-- A slice is built: the run. -/
theorem buildSlice_run {A : Nat → Nat} {T : List (Nat × SV)} {n c : Nat} {a : Act} {w : World} (hti : ∀ t, TIok E.P t (ti t)) (hT : TD E A T n c a w) {o : Oper} {t e len : Nat} {ps : Array (Nat × Operand)} {agg : Bool} {size : Nat} {zero : List Value} {fs : List (Nat × Nat × Bool)} {ik : Option IntKind} {kd bytes : Nat} {agg2 : Bool} {esz : Nat} {zero2 : List Value} {fs2 : List (Nat × Nat × Bool)} {el2 : Option TypeId} {ik2 : Option IntKind} {kd2 bytes2 : Nat} {cs : List Value}
    (hop : o.op = .buildSlice t len ps) (hte : ti t = .mk agg size zero fs (some e) ik kd bytes) (hte2 : ti e = .mk agg2 esz zero2 fs2 el2 ik2 kd2 bytes2) (hplen : Nat.beq (listLen ps.toList) len = true) (h24 : Nat.ble (len * esz + len) 16777216 = true) (hcs : bParts T esz 0 ps.toList = some cs) :
    (execOp a.eval o).run E.P w = .ok (.value (.slice (some ⟨w.heap.size, 0, none⟩) len len)) (w.alloc (.cells cs.toArray e)) ∧ Ext w (w.alloc (.cells cs.toArray e)) ∧ New w (w.alloc (.cells cs.toArray e)) [fOwn false ⟨some ⟨w.heap.size, 0, none⟩, len⟩ e esz cs len] := by
  have htt := hti t
  rw [hte] at htt
  obtain ⟨ii, dd, z, e1, e2, e3, e4, e5, e6, e7, e8, e9, e10, e11⟩ := tiSum_parts htt
  have htt2 := hti e
  rw [hte2] at htt2
  obtain ⟨ii2, dd2, z2, k1, k2, k3, k4, k5, k6, k7, k8, k9, k10, k11⟩ := tiSum_parts htt2
  have hdd := el_slice e8
  have hlen := Nat.eq_of_beq_eq_true hplen
  rw [listLen_eq] at hlen
  have h24' := Nat.le_of_ble_eq_true h24
  obtain ⟨r, g1, g2, g3⟩ : ∃ r, cs.length = len * esz ∧ Instr.fill (fun i => some (i * esz, esz)) ((Array.range (len * esz)).map (((if len * esz = 0 then #[] else z2.cells) : Array Value)[· % ((if len * esz = 0 then #[] else z2.cells) : Array Value).size]!)) (ps.toList.map fun x => (x.1, a.eval x.2)) = some r ∧ r.toList = cs := by
    obtain ⟨q1, r, q2, q3⟩ := fill_parts hT (acc := (Array.range (len * esz)).map (((if len * esz = 0 then #[] else z2.cells) : Array Value)[· % ((if len * esz = 0 then #[] else z2.cells) : Array Value).size]!)) hcs (by simp [hlen])
    exact ⟨r, by rw [q1, hlen], q2, by simpa using q3⟩
  have hrcs : r = cs.toArray := by apply Array.ext'; simpa using g3
  have hr : (execOp a.eval o).run E.P w = .ok (.value (.slice (some ⟨w.heap.size, 0, none⟩) len len)) (w.alloc (.cells cs.toArray e)) := by
    have hps : (ps.map fun (x : Nat × Operand) => (x.1, a.eval x.2)).toList = ps.toList.map fun x => (x.1, a.eval x.2) := by simp
    have hdd2 : E.P.underlying t = some (.slice e) := by rw [e2, hdd]
    simp only [execOp, hop, Instr.buildSlice, Sem.run_bind, underlying, run_program, Result.andThen_ok, hdd2, Sem.run_pure, run_sizeOf k1, k4, hps]
    rw [if_neg (show ¬ (len * esz > 2 ^ 24) by omega)]
    by_cases h0 : len * esz = 0
    · simp only [h0, if_true] at g2 ⊢
      simp only [Sem.run_bind, Sem.run_pure, Result.andThen_ok]
      rw [g2]
      simp [newRow, hrcs]
    · simp only [h0, if_false] at g2 ⊢
      simp only [Sem.run_bind, Sem.run_pure, Result.andThen_ok, zeroValue, typeInfo, run_program, k1, k5]
      rw [g2]
      simp [newRow, hrcs]
  have hex := Ext.alloc w (.cells cs.toArray e)
  have hown : (w.alloc (.cells cs.toArray e)).ownsRow 0 e esz (Sl.val ⟨some ⟨w.heap.size, 0, none⟩, len⟩ len) len cs := by
    refine ⟨g1, .inr ⟨w.heap.size, len, cs.toArray, rfl, Nat.zero_le _, heap_alloc_new w _, Nat.le_refl _, ?_, by simp [g1], ?_⟩⟩
    · simp only [maxLen]; omega
    · simp [← g1]
  have hnew : New w (w.alloc (.cells cs.toArray e)) [fOwn false ⟨some ⟨w.heap.size, 0, none⟩, len⟩ e esz cs len] := by
    refine ⟨fun f hf => ?_, List.pairwise_singleton _ _⟩
    simp only [List.mem_singleton] at hf
    subst hf
    refine ⟨hown, rfl, fun b hb => ?_⟩
    obtain ⟨ad, h1, h2⟩ := hb
    simp only [Option.some.injEq] at h1
    subst h1
    simp at h2
    subst h2
    simp
  exact ⟨hr, hex, hnew⟩

theorem effD_sound (hti : ∀ t, TIok E.P t (ti t)) {o : Oper} {next : St → Prop} {A0 A : Nat → Nat} {n0 n c : Nat} {B0 B : List (Nat × TypeId × Nat)} {Ms M : List ((Nat × Nat) × SV)} {Fs F : List Fct} {T : List (Nat × SV)} {a : Act} {w ws : World}
    (hv : effD E ti o Ms Fs next T n c B M F o.op) (hI : InvD E A0 n0 B0 Ms Fs A n B M F w) (hs : WD E A0 n0 B0 Ms Fs ws) (hT : TD E A T n c a w) {K : Act → World → Prop} {Q : Exit → Act → World → Prop}
    (hK : ∀ A' T' n' c' B' M' F' a' w', InvD E A0 n0 B0 Ms Fs A' n' B' M' F' w' → (∀ w2, TD E A' T' n' c' a' w2) → next (.mk T' n' c' B' M' F') → K a' w') :
    o.wp E.P a w K Q := by
  have hMlt : ∀ k o v, lookM Ms k o = some v → k < n0 := fun k o v hv => by
    obtain ⟨⟨ty, sz, hk⟩, _⟩ := hs.mem k o v hv
    exact (hs.key _ _ _ hk).1
  cases hop : o.op <;> rw [hop] at hv <;> simp only [effD] at hv
  case alloc t =>
    split at hv
    · rename_i agg sz zero fs el ik kd bytes hte
      split at hv
      · rename_i d hd
        split at hv
        · rename_i hdn
          split at hv
          · rename_i hlen
            have htt := hti t
            rw [hte] at htt
            obtain ⟨ii, dd, z, e1, e2, e3, e4, e5, e6, e7, e8, e9, e10, e11⟩ := tiSum_parts htt
            rw [storeK_eq] at hv
            have hsz := Nat.eq_of_beq_eq_true hlen
            rw [listLen_eq] at hsz
            have hal := hI.hw.alloc (l := zero.map .v) (fun x hx => by obtain ⟨y, _, rfl⟩ := List.mem_map.1 hx; trivial) t
            have hcells : ((zero.map SV.v).map (SV.den A)).toArray = z.cells := by
              rw [List.map_map, show (SV.den A ∘ SV.v) = id from rfl, List.map_id, ← e6]
            rw [hcells, List.length_map, hsz] at hal
            have hr : (execOp a.eval o).run E.P w = .ok (.value (.pointer (some ⟨w.heap.size, 0, none⟩))) (w.alloc (.cells z.cells t)) := by
              simp [execOp, hop, run_alloc e1 e5]
            refine upon_of_value hr ?_
            rw [hd]
            refine hK (fun k => if k = n then w.heap.size else A k) _ _ _ _ _ _ _ _ ⟨fun k hk => ?_, Nat.le_succ_of_le hI.hn, fun x hx => by simp [hI.hb x hx], fun k o v hv => ?_, hI.hf, hal⟩ (fun w2 => ?_) hv
            · have := hI.hn
              simp only [if_neg (show k ≠ n by omega)]
              exact hI.ag k hk
            · have := hI.hn
              have hk := hMlt k o v hv
              rw [lookM_storeL, if_neg (by omega)]
              exact hI.hm k o v hv
            · have := (hT.alloc w.heap.size w2).put (d := d) (v := .p n 0) (by simpa using hdn) (Nat.lt_succ_self n)
              simpa [SV.den, ptr] using this
          · exact hv.elim
        · exact hv.elim
      · exact hv.elim
    · exact hv.elim
  case load t x =>
    split at hv
    · rename_i s hsl
      split at hv
      · rename_i d hd
        split at hv
        · rename_i hdn
          obtain ⟨h1, h2⟩ := pLoad_sound hti (fun k o v hv => (hI.hw.mem k o v hv).2) hT hsl o hop
          refine upon_of_value h1 ?_
          rw [hd]
          split at hv
          · exact hv.elim
          · rename_i hne
            refine hK A _ _ _ _ _ _ _ _ ⟨hI.ag, hI.hn, hI.hb, hI.hm, hI.hf, hI.hw⟩ (fun w2 => (hT.step w2).put (by simpa using hdn) ?_) hv
            cases s with
            | e s ad cs off => exact (hne s ad cs off rfl).elim
            | p k o => exact h2
            | f g cap => exact h2
            | _ => trivial
        · exact hv.elim
      · exact hv.elim
    · obtain ⟨hv⟩ := hv
      exact Oper.wp_weak (fun a w ⟨A', T', n', c', B', M', F', g1, g2, g3, g4, g5, h1, h2, h4⟩ => hK A' _ _ _ _ _ _ _ _ ⟨fun k hk => (g1 k (Nat.lt_of_lt_of_le hk hI.hn)).trans (hI.ag k hk), Nat.le_trans hI.hn g2, fun x hx => g3 x (hI.hb x hx), g4, g5, h1⟩ h2 h4) (hv hI.hm hI.hf A a w hI.hw hT)
  case store t x y =>
    split at hv
    · exact hv.elim
    · rename_i hd
      split at hv
      · rename_i k off hx
        split at hv
        · rename_i agg sz zero fs el ik kd bytes hte
          split at hv
          · rename_i s hs'
            split at hv
            · rename_i l hl
              split at hv
              · rename_i hlen
                split at hv
                · rename_i bsz hb
                  split at hv
                  · rename_i hle
                    split at hv
                    · rename_i hnk
                      rw [storeK_eq] at hv
                      have htt := hti t
                      rw [hte] at htt
                      obtain ⟨ii, dd, z, e1, e2, e3, e4, e5, e6, e7, e8, e9, e10, e11⟩ := tiSum_parts htt
                      obtain ⟨h1, h2⟩ := evalO_sound hT hs'
                      obtain ⟨h3, h4⟩ := evalO_sound hT hx
                      obtain ⟨c1, c2, c3⟩ := cellsSV_spec (A := A) hl h2
                      obtain ⟨ty, hmem⟩ := lookB_mem hb
                      have hsz := Nat.eq_of_beq_eq_true hlen
                      rw [listLen_eq] at hsz
                      obtain ⟨w', hrun, hW'⟩ := hI.hw.store hmem c2 c3 (by rw [hsz]; exact Nat.le_of_ble_eq_true hle) E.P
                      have hcs : (s.den A).cells.size = ii.size := by
                        have : (s.den A).cells.toList.length = l.length := by rw [c1]; simp
                        simp at this
                        rw [this, hsz, e4]
                      have hr : (execOp a.eval o).run E.P w = .ok .skip w' := by
                        have h3' : a.eval x = .pointer (some ⟨A k, off, none⟩) := h3
                        simp only [execOp, hop, Instr.storeAt, h1, h3', Instr.sureAddr, Sem.run_bind, Sem.run_pure, Result.andThen_ok, storeVar, run_sizeOf e1]
                        rw [if_neg (by simp [hcs]), c1]
                        simp only [Result.andThen_ok, hrun]
                      refine upon_of_skip hr ?_
                      rw [hd]
                      refine hK A _ _ _ _ _ _ _ _ ⟨hI.ag, hI.hn, hI.hb, fun k' o' v hv => ?_, hI.hf, hW'⟩ (fun w2 => hT.step w2) hv
                      rw [lookM_storeL, if_neg (by rw [hsz]; exact noKey_ok hnk k' o' v hv)]
                      exact hI.hm k' o' v hv
                    · exact hv.elim
                  · exact hv.elim
                · exact hv.elim
              · exact hv.elim
            · exact hv.elim
          · exact hv.elim
        · exact hv.elim
      · obtain ⟨hv⟩ := hv
        exact Oper.wp_weak (fun a w ⟨A', T', n', c', B', M', F', g1, g2, g3, g4, g5, h1, h2, h4⟩ => hK A' _ _ _ _ _ _ _ _ ⟨fun k hk => (g1 k (Nat.lt_of_lt_of_le hk hI.hn)).trans (hI.ag k hk), Nat.le_trans hI.hn g2, fun x hx => g3 x (hI.hb x hx), g4, g5, h1⟩ h2 h4) (hv hI.hm hI.hf A a w hI.hw hT)
  case buildSlice t len ps =>
    split at hv
    · rename_i e ik kd bytes hte
      split at hv
      · rename_i agg2 esz zero2 fs2 el2 ik2 kd2 bytes2 hte2
        split at hv
        · rename_i d hd
          split at hv
          · rename_i hdn
            split at hv
            · rename_i hplen
              split at hv
              · rename_i h24
                split at hv
                · rename_i cs hcs
                  obtain ⟨hv⟩ := hv
                  obtain ⟨hr, hex, hnew⟩ := buildSlice_run hti hT hop hte hte2 hplen h24 hcs
                  refine upon_of_value hr ?_
                  rw [hd]
                  exact hK A _ _ _ _ _ _ _ _ ⟨hI.ag, hI.hn, hI.hb, hI.hm, fun f hf => List.mem_cons_of_mem _ (hI.hf f hf), hI.hw.learn hex hnew⟩ (fun w2 => (hT.step w2).put (d := d) (v := .v (Sl.val ⟨some ⟨w.heap.size, 0, none⟩, len⟩ len)) (by simpa using hdn) trivial) (hv ⟨some ⟨w.heap.size, 0, none⟩, len⟩)
                · exact hv.elim
              · exact hv.elim
            · exact hv.elim
          · exact hv.elim
        · exact hv.elim
      · exact hv.elim
    · exact hv.elim
  all_goals
    obtain ⟨hv⟩ := hv
    exact Oper.wp_weak (fun a w ⟨A', T', n', c', B', M', F', g1, g2, g3, g4, g5, h1, h2, h4⟩ => hK A' _ _ _ _ _ _ _ _ ⟨fun k hk => (g1 k (Nat.lt_of_lt_of_le hk hI.hn)).trans (hI.ag k hk), Nat.le_trans hI.hn g2, fun x hx => g3 x (hI.hb x hx), g4, g5, h1⟩ h2 h4) (hv hI.hm hI.hf A a w hI.hw hT)

def unl : List Bool → Nat
  | [] => 0
  | true :: r => unl r
  | false :: r => unl r + 1

theorem unl_set : ∀ {l : List Bool} {i : Nat}, l[i]? = some false → unl (l.set i true) + 1 = unl l
  | [], i, h => by simp at h
  | b :: r, 0, h => by simp at h; subst h; simp [unl]
  | b :: r, i + 1, h => by
    simp at h
    have := unl_set h
    cases b <;> simp [unl] <;> omega

theorem unl_ready {md : Region.Mode} {ops : Array Oper} {L : Array Bool} {i : Nat} (h : i ∈ Region.ready md ops L) : unl (L.setIfInBounds i true).toList + 1 = unl L.toList := by
  have h0 := (mem_ready.1 h).1
  have h1 : L.toList[i]? = some false := by
    rw [Array.getD_eq_getD_getElem?] at h0
    rw [Array.getElem?_toList]
    cases hx : L[i]? with
    | none => rw [hx] at h0; simp at h0
    | some b => rw [hx] at h0; simp at h0; rw [h0]
  rw [Array.toList_setIfInBounds]
  exact unl_set h1

theorem guardSt_go {A : Nat → Nat} {T : List (Nat × SV)} {n c : Nat} {a : Act} {w : World} (h : TD E A T n c a w) {ops : List Oper} {g : Option (Nat × Bool)} (hg : guardSt ops T g = .go) (o : Oper) (ho : o.guard = g) : Region.wanted o (yielded ops.toArray a.tmps) = true := by
  unfold guardSt at hg
  split at hg
  · simp [Region.wanted, ho]
  · rename_i j want
    split at hg
    · rename_i t b hgv
      have hy := (gval_yield h hgv (b := b) rfl).1
      split at hg <;> first | (cases hg; done) | simp [Region.wanted, ho, hy]
    · cases hg
    · cases hg
    · cases hg

theorem guardSt_no {A : Nat → Nat} {T : List (Nat × SV)} {n c : Nat} {a : Act} {w : World} (h : TD E A T n c a w) {ops : List Oper} {g : Option (Nat × Bool)} (hg : guardSt ops T g = .no) (o : Oper) (ho : o.guard = g) : Region.wanted o (yielded ops.toArray a.tmps) = false := by
  unfold guardSt at hg
  split at hg
  · cases hg
  · rename_i j want
    split at hg
    · rename_i t b hgv
      have hy := (gval_yield h hgv (b := b) rfl).1
      split at hg <;> first | (cases hg; done) | simp [Region.wanted, ho, hy]
    · cases hg
    · rename_i t xs hgv
      have hy := gval_none h hgv (xs := xs) rfl
      simp [Region.wanted, ho, hy]
    · cases hg

theorem guardSt_unk {A : Nat → Nat} {T : List (Nat × SV)} {n c : Nat} {a : Act} {w : World} (h : TD E A T n c a w) {ops : List Oper} {g : Option (Nat × Bool)} {t : Nat} {b : Bool} (hg : guardSt ops T g = .unk t b) : look T t = some (.v (.bool b)) := by
  unfold guardSt at hg
  split at hg
  · cases hg
  · rename_i j want
    split at hg
    · split at hg <;> cases hg
    · rename_i hgv
      have := (gval_yield h hgv (b := _) rfl).2
      cases hg
      exact this
    · cases hg
    · cases hg

/-- What a pick says. -/
theorem pick_spec {ti : Nat → TI} {ops : List Oper} {T : List (Nat × SV)} {c : Nat} {Ms : List ((Nat × Nat) × SV)} : ∀ (rs : List Nat),
    (∀ i d s, pickFrom ti ops T c Ms rs = .pure i d s → i ∈ rs ∧ ∃ o, ops[i]? = some o ∧ guardSt ops T o.guard = .go ∧ pureV ti T c Ms o.op = some s ∧ o.dst = d) ∧
    (∀ i d, pickFrom ti ops T c Ms rs = .skip i d → i ∈ rs ∧ ∃ o, ops[i]? = some o ∧ guardSt ops T o.guard = .no ∧ o.dst = d) ∧
    (∀ t b, pickFrom ti ops T c Ms rs = .split t b → ∃ o : Oper, guardSt ops T o.guard = .unk t b) ∧
    (∀ i o, pickFrom ti ops T c Ms rs = .idx i o → i ∈ rs ∧ ops[i]? = some o ∧ guardSt ops T o.guard = .go)
  | [] => ⟨fun _ _ _ h => (by cases h), fun _ _ h => (by cases h), fun _ _ h => (by cases h), fun _ _ h => (by cases h)⟩
  | i :: r => by
    have ih := pick_spec (ti := ti) (ops := ops) (T := T) (c := c) (Ms := Ms) r
    have up : (∀ j d s, pickFrom ti ops T c Ms r = .pure j d s → j ∈ i :: r ∧ ∃ o, ops[j]? = some o ∧ guardSt ops T o.guard = .go ∧ pureV ti T c Ms o.op = some s ∧ o.dst = d) ∧
        (∀ j d, pickFrom ti ops T c Ms r = .skip j d → j ∈ i :: r ∧ ∃ o, ops[j]? = some o ∧ guardSt ops T o.guard = .no ∧ o.dst = d) ∧
        (∀ t b, pickFrom ti ops T c Ms r = .split t b → ∃ o : Oper, guardSt ops T o.guard = .unk t b) ∧
        (∀ j o, pickFrom ti ops T c Ms r = .idx j o → j ∈ i :: r ∧ ops[j]? = some o ∧ guardSt ops T o.guard = .go) :=
      ⟨fun j d s h => ⟨List.mem_cons_of_mem _ (ih.1 j d s h).1, (ih.1 j d s h).2⟩, fun j d h => ⟨List.mem_cons_of_mem _ (ih.2.1 j d h).1, (ih.2.1 j d h).2⟩, ih.2.2.1, fun j o h => ⟨List.mem_cons_of_mem _ (ih.2.2.2 j o h).1, (ih.2.2.2 j o h).2⟩⟩
    simp only [pickFrom]
    cases ho : nth ops i with
    | none => exact up
    | some o =>
      rw [nth_eq] at ho
      dsimp only
      cases hg : guardSt ops T o.guard with
      | go =>
        dsimp only
        cases hp : pureV ti T c Ms o.op with
        | some s =>
          dsimp only
          refine ⟨fun j d s' h => ?_, fun _ _ h => (by cases h), fun _ _ h => (by cases h), fun _ _ h => (by cases h)⟩
          cases h
          exact ⟨by simp, o, ho, hg, hp, rfl⟩
        | none =>
          dsimp only
          cases hi : isIdx o.op with
          | true =>
            dsimp only
            refine ⟨fun _ _ _ h => (by cases h), fun _ _ h => (by cases h), fun _ _ h => (by cases h), fun j o' h => ?_⟩
            cases h
            exact ⟨by simp, ho, hg⟩
          | false => dsimp only; exact up
      | no =>
        dsimp only
        refine ⟨fun _ _ _ h => (by cases h), fun j d h => ?_, fun _ _ h => (by cases h), fun _ _ h => (by cases h)⟩
        cases h
        exact ⟨by simp, o, ho, hg, rfl⟩
      | unk t b =>
        dsimp only
        refine ⟨fun _ _ _ h => (by cases h), fun _ _ h => (by cases h), fun t' b' h => ?_, fun _ _ h => (by cases h)⟩
        cases h
        exact ⟨o, hg⟩
      | bad => dsimp only; exact up

theorem vcD_sound (hti : ∀ t, TIok E.P t (ti t)) {ops : List Oper} {A0 : Nat → Nat} {n0 : Nat} {B0 : List (Nat × TypeId × Nat)} {Ms : List ((Nat × Nat) × SV)} {Fs : List Fct} {K : St → Prop} {ws : World} (hs : WD E A0 n0 B0 Ms Fs ws) (hns : Region.noSelect ops.toArray = true) (hap : apartAll ops.toArray = true) :
    ∀ (f : Nat) (L : List Bool) (T : List (Nat × SV)) (n c : Nat) (B : List (Nat × TypeId × Nat)) (M : List ((Nat × Nat) × SV)) (F : List Fct) (A : Nat → Nat) (a : Act) (w : World) (k : Nat),
      vcD E ti ops n0 B0 Ms Fs K f L (.mk T n c B M F) → InvD E A0 n0 B0 Ms Fs A n B M F w → (∀ w2, WD E A0 n0 B0 Ms Fs w2 → TD E A T n c a w2) → unl L ≤ k →
      wpAnyH E.P .any ops.toArray (postD E K) (fun w => WD E A0 n0 B0 Ms Fs w) k L.toArray a w
  | 0, _, _, _, _, _, _, _, _, _, _, _, hv, _, _, _ => (hv : False).elim
  | f + 1, L, T, n, c, B, M, F, A, a, w, k, hv, hI, hT, hk => by
    have hS := hI.start hs
    have hTw := hT w hS
    have hloc : ∀ w2, WD E A0 n0 B0 Ms Fs w2 → WD E A n0 B0 Ms Fs w2 := fun w2 h => h.agree (fun k hk => (hI.ag k hk).symm)
    have hQ : ∀ (c : List PanicEntry) (a1 a2 : Act) (w : World), postD E K (.panic c) a1 w → postD E K (.panic c) a2 w := fun _ _ _ _ h => h
    have hset : ∀ i, L.toArray.setIfInBounds i true = (setB L i).toArray := fun i => by rw [setB_eq]; simp
    have hunl : ∀ i, i ∈ readyB L 0 ops L → unl (setB L i) + 1 = unl L := fun i hi => by
      have := unl_ready (mem_readyB.1 hi)
      rw [hset] at this
      simpa using this
    obtain ⟨p1, p2, p3, p4⟩ := pick_spec (ti := ti) (ops := ops) (T := T) (c := c) (Ms := Ms) (readyB L 0 ops L)
    simp only [vcD] at hv
    split at hv
    · rename_i i d s hp
      obtain ⟨hmem, o, ho, hg, hpv, hod⟩ := p1 i d s hp
      have hu := hunl i hmem
      have hmem' := mem_readyB.1 hmem
      obtain ⟨k', rfl⟩ : ∃ k', k = k' + 1 := ⟨k - 1, by omega⟩
      have hval : ∀ w2, WD E A0 n0 B0 Ms Fs w2 → OKV E A n c w2 ((execOp a.eval o).run E.P w2) s := fun w2 h2 =>
        pureV_sound hti (fun k o v hv => by
          obtain ⟨_, g1, g2⟩ := (hloc w2 h2).mem k o v hv
          exact ⟨g1, SV.small_more g2 hI.hn⟩) (hT w2 h2) hpv
      have hy : YieldsIf E.P ops.toArray (fun w => WD E A0 n0 B0 Ms Fs w) o (s.den A) a := .inl ⟨guardSt_go hTw hg o rfl, fun w2 h2 => (hval w2 h2).1⟩
      refine wpAnyH_take (by simpa using ho) hns (free_of_apart hap hmem') (by simpa using hmem') (fun c a w h => h) hy hS ?_
      rw [hset]
      split at hv
      · rename_i d
        split at hv
        · rename_i hdn
          rw [hod]
          exact vcD_sound hti hs hns hap f _ _ n c B M F A _ w k' hv hI (fun w2 h2 => (hT w2 h2).put (by simpa using hdn) (hval w2 h2).2) (by omega)
        · exact hv.elim
      · rw [hod]
        exact vcD_sound hti hs hns hap f _ _ n c B M F A _ w k' hv hI hT (by omega)
    · rename_i i d hp
      obtain ⟨hmem, o, ho, hg, hod⟩ := p2 i d hp
      have hu := hunl i hmem
      have hmem' := mem_readyB.1 hmem
      obtain ⟨k', rfl⟩ : ∃ k', k = k' + 1 := ⟨k - 1, by omega⟩
      have hy : YieldsIf E.P ops.toArray (fun w => WD E A0 n0 B0 Ms Fs w) o undef a := .inr ⟨guardSt_no hTw hg o rfl, rfl⟩
      refine wpAnyH_take (by simpa using ho) hns (free_of_apart hap hmem') (by simpa using hmem') (fun c a w h => h) hy hS ?_
      rw [hset]
      split at hv
      · rename_i d
        split at hv
        · rename_i hdn
          rw [hod]
          exact vcD_sound hti hs hns hap f _ _ n c B M F A _ w k' hv hI (fun w2 h2 => (hT w2 h2).put (v := .v undef) (by simpa using hdn) trivial) (by omega)
        · exact hv.elim
      · rw [hod]
        exact vcD_sound hti hs hns hap f _ _ n c B M F A _ w k' hv hI hT (by omega)
    · rename_i t b hp
      obtain ⟨o, hg⟩ := p3 t b hp
      have hl := guardSt_unk hTw hg
      cases b with
      | true => exact vcD_sound hti hs hns hap f _ _ n c B M F A _ w k (hv.t rfl) hI (fun w2 h2 => (hT w2 h2).lit hl) hk
      | false => exact vcD_sound hti hs hns hap f _ _ n c B M F A _ w k (hv.f rfl) hI (fun w2 h2 => (hT w2 h2).lit hl) hk
    · rename_i i o hp
      obtain ⟨hmem, ho, hg⟩ := p4 i o hp
      have hu := hunl i hmem
      have hmem' := mem_readyB.1 hmem
      obtain ⟨k', rfl⟩ : ∃ k', k = k' + 1 := ⟨k - 1, by omega⟩
      obtain ⟨s, h1, d, hd, hv⟩ := hv.out A
      have hy : YieldsIf E.P ops.toArray (fun w => WD E A0 n0 B0 Ms Fs w) o (s.den A) a := .inl ⟨guardSt_go hTw hg o rfl, fun w2 h2 => (h1 a w2 (hloc w2 h2) (hT w2 h2)).1⟩
      refine wpAnyH_take (by simpa using ho) hns (free_of_apart hap hmem') (by simpa using hmem') (fun c a w h => h) hy hS ?_
      rw [hd.1, hset]
      exact vcD_sound hti hs hns hap f _ _ n c B M F A _ w k' hv hI (fun w2 h2 => (hT w2 h2).put hd.lt (h1 a w2 (hloc w2 h2) (hT w2 h2)).2) (by omega)
    · split at hv
      · rename_i hr
        refine wpAnyH_done (List.eq_nil_iff_forall_not_mem.2 fun i hi => ?_) ⟨_, ⟨A, hI.hw, hTw⟩, hv⟩ k
        rw [← mem_readyB, hr] at hi
        cases hi
      · rename_i i0 r hr
        have hmem0 : i0 ∈ readyB L 0 ops L := by rw [hr]; simp
        have hu := hunl i0 hmem0
        obtain ⟨k', rfl⟩ : ∃ k', k = k' + 1 := ⟨k - 1, by omega⟩
        refine wpAnyH_all rfl (fun e => by have := mem_readyB.1 hmem0; rw [e] at this; cases this) fun i hi => ?_
        have hmem := mem_readyB.2 hi
        have hvi := allR_mem hv i (by rw [← hr]; exact hmem)
        have hui := hunl i hmem
        cases ho : nth ops i with
        | none => rw [ho] at hvi; exact hvi.elim
        | some o =>
          rw [ho] at hvi
          simp only at hvi
          rw [nth_eq] at ho
          split at hvi
          · rename_i hg
            unfold wpOp
            simp only [show ops.toArray[i]? = some o by simpa using ho, guardSt_go hTw hg o rfl, if_true]
            refine .inl (effD_sound hti hvi hI hs hTw ?_)
            intro A' T' n' c' B' M' F' a' w' hI' hT' hn
            rw [hset]
            exact ⟨hI'.start hs, vcD_sound hti hs hns hap f _ _ n' c' B' M' F' A' a' w' k' hn hI' (fun w2 _ => hT' w2) (by omega)⟩
          · exact hvi.elim

/-- Facts out of a state's, each by its number there. -/
def FK (F : List Fct) : List Nat → List Fct → Prop
  | [], [] => True
  | i :: ix, f :: r => F[i]? = some f ∧ FK F ix r
  | _, _ => False

theorem FK.fw {F : List Fct} : ∀ {ix : List Nat} {Fs : List Fct}, FK F ix Fs → FW F ix Fs
  | [], [], _ => trivial
  | [], _ :: _, h => h.elim
  | _ :: _, [], h => h.elim
  | _ :: _, _ :: _, h => ⟨.inl ⟨_, h.1, rfl⟩, FK.fw h.2⟩

theorem FK.keep {F : List Fct} : ∀ {ix : List Nat} {Fs : List Fct}, FK F ix Fs → keepF Fs F
  | [], [], _ => fun f hf => by cases hf
  | [], _ :: _, h => h.elim
  | _ :: _, [], h => h.elim
  | _ :: _, _ :: _, h => fun f hf => by
    rcases List.mem_cons.1 hf with rfl | hf
    · exact List.mem_of_getElem? h.1
    · exact FK.keep h.2 f hf

theorem unl_replicate : ∀ n : Nat, unl (List.replicate n false) = n
  | 0 => rfl
  | n + 1 => by simp [List.replicate_succ, unl, unl_replicate n]

/-- THE BEGINNING OF A REGION THAT DRAWS: Ms: the cells that nobody in the region writes and that it reads; ix: the facts that stand through it. -/
theorem draw_start {id : Nat} {ops : Array Oper} {T : List (Nat × SV)} {n c : Nat} {B : List (Nat × TypeId × Nat)} {M : List ((Nat × Nat) × SV)} {F : List Fct} {K : St → Prop} (hti : ∀ t, TIok E.P t (ti t)) (hm : E.P.follows .mixedOrders = true) (hns : Region.noSelect ops = true) (hap : apartAll ops = true)
    (fuel : Nat) (Ms : List ((Nat × Nat) × SV)) (ix : List Nat) (Fs : List Fct) (hM : MW M n Ms) (hMB : MBW B Ms) (hF : FK F ix Fs) (hix : nodupB ix = true)
    (hv : vcD E ti ops.toList n B Ms Fs K fuel (falses ops.toList) (.mk T n (c + 1) B M F)) :
    DrawW (∀ a w, Den E (.mk T n c B M F) a w → (Code.region id ops true).wp E.P (postD E K) a w) := by
  refine ⟨fun a w hd => ?_⟩
  obtain ⟨A, hW, hT⟩ := hd
  have hdr : Ext w { w with drawn := w.drawn + 1 } := ⟨rfl, rfl, rfl, Nat.le_refl _, fun _ _ _ => rfl⟩
  have hW' := hW.growExt hdr
  have hs : WD E A n B Ms Fs { w with drawn := w.drawn + 1 } := by
    have hp := hW'.pick ix hF.fw hix
    refine ⟨hp.key, hp.inj, fun k o v hv => ?_, hp.a0, hp.n0, hp.ext, hp.fct, hp.dj⟩
    obtain ⟨h1, h2⟩ := MW_all hM k o v hv
    exact ⟨MBW_all hMB k o v hv, (hp.mem k o v h1).2.1, h2⟩
  refine wp_region_held (S := fun w => WD E A n B Ms Fs w) hm ?_
  have := vcD_sound hti (ops := ops.toList) (K := K) hs (by simpa using hns) (by simpa using hap) fuel (falses ops.toList) T n (c + 1) B M F A a { w with drawn := w.drawn + 1 } ops.size hv
    ⟨fun _ _ => rfl, Nat.le_refl _, fun _ h => h, fun k o v hv => (MW_all hM k o v hv).1, hF.keep, hW'⟩ (fun w2 _ => hT.step w2) (by simp [falses_eq, unl_replicate])
  rw [Array.toArray_toList, falses_eq] at this
  simp only [Array.length_toList, List.toArray_replicate] at this
  exact this

end

section

variable {E : Env} {ti : Nat → TI} {A : Nat → Nat} {T : List (Nat × SV)} {n c : Nat} {B : List (Nat × TypeId × Nat)} {M Ms : List ((Nat × Nat) × SV)} {F Fs : List Fct} {o : Oper} {next : St → Prop}

/-- A call, in a region that draws. -/
theorem d_call (R : Value → List Fct → Prop) {k : Call} {fo : Operand} {g : FuncId} {cap : List (Nat × Nat)} {l : List SV} {d : Nat} (hc : callable E.P g = true)
    (hop : o.op = .call k) (hk : k.callee = .value fo) (hf : evalO T fo = some (.f g cap)) (ha : evalOs T k.args.toList = some l) (hd : Dst E o d)
    (hcall : ∀ A w, WD E A n B M F w → Calls E.P g ((l.map (SV.den A)) ++ cap.map (fun x => ptr A x.1 x.2)).toArray w (Ret w R))
    (hnext : ∀ v L, R v L → next (.mk ((d, .v v) :: T) n (c + 1) B M (L ++ F))) :
    OpW (opD E o Ms Fs next T n c B M F) := by
  refine ⟨opD0.up fun hkf A a w hW hT => ?_⟩
  have hargs : (k.args.map a.eval).toList = l.map (SV.den A) := by rw [Array.toList_map]; exact evalOs_sound hT ha
  have hfv := (evalO_sound hT hf).1
  have hr : (execOp a.eval o).run E.P w = .ok (.enter g ((l.map (SV.den A)) ++ cap.map (fun x => ptr A x.1 x.2)).toArray) w := by
    have hcat : (k.args.map a.eval) ++ (cap.map (fun x => ptr A x.1 x.2)).toArray = ((l.map (SV.den A)) ++ cap.map (fun x => ptr A x.1 x.2)).toArray := by
      apply Array.ext'; rw [Array.toList_append, hargs]
    simp only [execOp, hop, resolve, hk, Sem.run_bind, hfv, SV.den, Deferred.ofValue, Sem.run_pure, Result.andThen_ok, Array.empty_append, invoke, hcat, run_callFunc hc]
  unfold Oper.wp
  rw [hr, Oper.upon_enter]
  refine (hcall A w hW).mono ?_
  rintro e w' ⟨v, L, rfl, he, hL, hR⟩
  refine ⟨_, _, _, hW.learn he hL, fun w2 => ?_, fun f hf => List.mem_append_right _ (hkf f hf), hnext v L hR⟩
  rw [hd.1]
  exact (hT.step w2).put (v := .v v) hd.lt trivial

/-- append, in a region that draws. -/
theorem d_app {α : Type} {enc : α → List Value} {sz : Nat} (he : Enc enc sz) (k1 : Nat) {xs ys : List α} {i j : Sl} {k : Call} {t e : TypeId} {x y : Operand} {d : Nat} {agg : Bool} {size : Nat} {zero : List Value} {fs : List (Nat × Nat × Bool)} {ik : Option IntKind} {kk bytes : Nat} {agg2 : Bool} {zero2 : List Value} {fs2 : List (Nat × Nat × Bool)} {el2 : Option TypeId} {ik2 : Option IntKind} {kk2 bytes2 : Nat}
    (hti : ∀ t, TIok E.P t (ti t)) (hop : o.op = .call k) (hk : k.callee = .builtin .append) (ha : k.args.toList = [x, y]) (hty : k.argTypes.toList = [t, t])
    (hx : evalO T x = some (.v (i.val xs.length))) (hy : evalO T y = some (.v (j.val ys.length)))
    (ht : ti t = .mk agg size zero fs (some e) ik kk bytes) (hte : ti e = .mk agg2 sz zero2 fs2 el2 ik2 kk2 bytes2) (hz2 : listLen zero2 = sz) (hsz0 : 0 < sz) (hd : Dst E o d)
    (hF1 : F[k1]? = some (own i e enc sz xs)) (hF2 : ∀ w, (∀ f ∈ F, f.P w) → RdS w j sz (cells enc ys) ys.length)
    (hb : (xs.length + ys.length) * bytes2 ≤ 140737488355328) (hm : xs.length + ys.length ≤ maxLen)
    (hkeep : keepF Fs F → keepF Fs (F.eraseIdx k1)) (hnext : ∀ y : Sl, next (.mk ((d, .v (y.val (xs ++ ys).length)) :: T) n (c + 1) B M (own y e enc sz (xs ++ ys) :: F.eraseIdx k1))) :
    OpW (opD E o Ms Fs next T n c B M F) := by
  refine ⟨opD0.up fun hkf A a w hW hT => ?_⟩
  have htt := hti t
  rw [ht] at htt
  obtain ⟨ii, dd, z, e1, e2, e3, e4, e5, e6, e7, e8, e9, e10, e11⟩ := tiSum_parts htt
  have htt2 := hti e
  rw [hte] at htt2
  obtain ⟨ii2, dd2, z2, g1, g2, g3, g4, g5, g6, g7, g8, g9, g10, g11⟩ := tiSum_parts htt2
  have hdd := el_slice e8
  have hown := (hW.nth k1 hF1).1
  have hrd := hF2 w (fun f hf => (hW.fct f hf).1)
  have hz : z2.cells.size = sz := by rw [← hz2, listLen_eq, ← g6]; simp
  obtain ⟨y', w', h1, h2, h3, h4⟩ := run_app (P := E.P) w o.type (by rw [e2, hdd]) g1 g5 g4 hz hsz0 hown hrd (cells_one he ys) (by rw [g11]; exact hb) hm
  have hr : (execOp a.eval o).run E.P w = .ok (.value (y'.val (xs.length + ys.length))) w' := by
    have hargs : k.args = #[x, y] := by apply Array.ext'; simpa using ha
    have htys : k.argTypes = #[t, t] := by apply Array.ext'; simpa using hty
    have hx' : a.eval x = i.val xs.length := (evalO_sound hT hx).1
    have hy' : a.eval y = j.val ys.length := (evalO_sound hT hy).1
    simp only [execOp, hop, resolve, hk, hargs, htys, Sem.run_bind, Sem.run_pure, Result.andThen_ok, invoke, builtin, List.map_toArray, List.map_cons, List.map_nil, hx', hy', h1]
  refine upon_of_value hr ?_
  rw [hd.1]
  have hn := hnext y'
  rw [List.length_append] at hn
  refine ⟨_, _, _, ?_, fun w2 => (hT.step w2).put (v := .v (y'.val (xs.length + ys.length))) hd.lt trivial, fun f hf => List.mem_cons_of_mem _ (hkeep hkf f hf), hn⟩
  have := hW.turn hF1 h3 (ds := cells enc xs ++ cells enc ys) h2 h4
  rw [← cells_append] at this
  show WD E A n B M (fOwn false y' e sz (cells enc (xs ++ ys)) (xs ++ ys).length :: F.eraseIdx k1) w'
  rw [List.length_append]
  exact this

/-- The same, the own slice found by search. -/
theorem d_appK {α : Type} {enc : α → List Value} {sz : Nat} (he : Enc enc sz) {k1 : Nat} {xs ys : List α} {i j : Sl} {k : Call} {t e : TypeId} {x y : Operand} {d : Nat} {agg : Bool} {size : Nat} {zero : List Value} {fs : List (Nat × Nat × Bool)} {ik : Option IntKind} {kk bytes : Nat} {agg2 : Bool} {zero2 : List Value} {fs2 : List (Nat × Nat × Bool)} {el2 : Option TypeId} {ik2 : Option IntKind} {kk2 bytes2 : Nat}
    (hti : ∀ t, TIok E.P t (ti t)) (hop : o.op = .call k) (hk : k.callee = .builtin .append) (ha : k.args.toList = [x, y]) (hty : k.argTypes.toList = [t, t])
    (hx : evalO T x = some (.v (i.val xs.length))) (hy : evalO T y = some (.v (j.val ys.length)))
    (ht : ti t = .mk agg size zero fs (some e) ik kk bytes) (hte : ti e = .mk agg2 sz zero2 fs2 el2 ik2 kk2 bytes2) (hz2 : listLen zero2 = sz) (hsz0 : 0 < sz) (hd : Dst E o d)
    (hF1 : IsAt F k1 (own i e enc sz xs)) (hF2 : ∀ w, (∀ f ∈ F, f.P w) → RdS w j sz (cells enc ys) ys.length)
    (hb : (xs.length + ys.length) * bytes2 ≤ 140737488355328) (hm : xs.length + ys.length ≤ maxLen)
    (hkeep : keepF Fs F → keepF Fs (F.eraseIdx k1)) (hnext : ∀ y : Sl, next (.mk ((d, .v (y.val (xs ++ ys).length)) :: T) n (c + 1) B M (own y e enc sz (xs ++ ys) :: F.eraseIdx k1))) :
    OpW (opD E o Ms Fs next T n c B M F) :=
  d_app he k1 hti hop hk ha hty hx hy ht hte hz2 hsz0 hd hF1.h hF2 hb hm hkeep hnext

/-- An index, in a region that draws. -/
theorem d_idx {α : Type} {enc : α → List Value} {sz : Nat} (he : Enc enc sz) {t e : TypeId} {x ix : Operand} {i : Sl} {xs : List α} {kd : IntKind} {m : Int} {d : Nat} {agg : Bool} {size : Nat} {zero : List Value} {fs : List (Nat × Nat × Bool)} {ik : Option IntKind} {kk bytes : Nat} {agg2 : Bool} {zero2 : List Value} {fs2 : List (Nat × Nat × Bool)} {el2 : Option TypeId} {ik2 : Option IntKind} {kk2 bytes2 : Nat}
    (hti : ∀ t, TIok E.P t (ti t)) (hop : o.op = .indexAddr t x ix) (hx : evalO T x = some (.v (i.val xs.length))) (hix : evalO T ix = some (.v (.int kd m)))
    (ht : ti t = .mk agg size zero fs (some e) ik kk bytes) (hte : ti e = .mk agg2 sz zero2 fs2 el2 ik2 kk2 bytes2) (hd : Dst E o d)
    (hF : ∀ w, (∀ f ∈ Fs, f.P w) → RdS w i sz (cells enc xs) xs.length) (j : Nat) (hj : m = (j : Int)) (hlt : j < xs.length) {n0 : Nat} {B0 : List (Nat × TypeId × Nat)}
    (hnext : ∀ ad : Addr, next (.mk ((d, .e c ad (enc xs[j]) 0) :: T) n c B M F)) :
    OpW (∀ A, ∃ s : SV, (∀ a w, WD E A n0 B0 Ms Fs w → TD E A T n c a w → (execOp a.eval o).run E.P w = .ok (.value (s.den A)) w ∧ s.okT n c w) ∧ (∃ d, Dst E o d ∧ next (.mk ((d, s) :: T) n c B M F))) := by
  refine ⟨fun A => ?_⟩
  by_cases hex : ∃ ad, i.a = some ad
  · obtain ⟨ad, had⟩ := hex
    refine ⟨.e c (ad.add (j * sz)) (enc xs[j]) 0, fun a w hW hT => ?_, d, hd, hnext _⟩
    obtain ⟨h1, h2, h3, h4⟩ := hF w (fun f hf => (hW.fct f hf).1)
    obtain ⟨ad', had', hcs⟩ := h4 (by omega)
    rw [had] at had'
    injection had' with had'
    subst had'
    have htt := hti t
    rw [ht] at htt
    obtain ⟨ii, dd, z, e1, e2, e3, e4, e5, e6, e7, e8, e9, e10, e11⟩ := tiSum_parts htt
    have htt2 := hti e
    rw [hte] at htt2
    obtain ⟨ii2, dd2, z2, k1, k2, k3, k4, k5, k6, k7, k8, k9, k10, k11⟩ := tiSum_parts htt2
    have hdd := el_slice e8
    subst hj
    refine ⟨?_, Nat.le_refl _, fun _ q u hu => by
      rw [addr_add_add]
      exact hcs _ u (cells_at he hlt hu)⟩
    have hx' : a.eval x = .slice (some ad) xs.length i.c := by rw [(evalO_sound hT hx).1]; simp [SV.den, Sl.val, had]
    have hix' : a.eval ix = .int kd j := (evalO_sound hT hix).1
    simp [execOp, hop, Instr.indexAt, hx', hix', asIntOf, underlying, e2, hdd, run_sizeOf k1, k4, hlt, SV.den]
    simp [Addr.add]
  · refine ⟨.e c ⟨0, 0, none⟩ (enc xs[j]) 0, fun a w hW hT => ?_, d, hd, hnext _⟩
    obtain ⟨h1, h2, h3, h4⟩ := hF w (fun f hf => (hW.fct f hf).1)
    obtain ⟨ad', had', hcs⟩ := h4 (by omega)
    exact absurd ⟨ad', had'⟩ hex

end

end Go.Sx

namespace Go.Proofs.YtklclbcckjhdpaaGreat

open Go Go.Sx Go.RowKit

def isThread (t : Int) : Bool := decide (0 ≤ t) && decide (t < 6)

def isValue (t : Int) : Bool := decide (0 ≤ t) && decide (t ≤ 99)

structure Letter where
  t : Int
  v : Int
  deriving DecidableEq

def cLet (l : Letter) : List Value := [.int .i64 l.t, .int .i64 l.v]

theorem encLet : Enc cLet 2 := ⟨fun _ => rfl, fun _ u hu => by simp [cLet] at hu; rcases hu with rfl | rfl <;> rfl⟩

structure Chan where
  room : Int
  items : List Int
  senders : List Letter
  getters : List Int
  closed : Bool
  deriving DecidableEq

def chanV (m : Chan) (i s g : Sl) : Value := .agg #[.int .i64 m.room, i.val m.items.length, s.val m.senders.length, g.val m.getters.length, .bool m.closed]

def Chan.small (m : Chan) : Prop := m.items.length ≤ 4294967296 ∧ m.senders.length ≤ 4294967296 ∧ m.getters.length ≤ 4294967296

def Chan.threads (m : Chan) : List Int := m.senders.map (·.t) ++ m.getters

set_option maxRecDepth 100000 in
theorem isThread_c (t : Int) (w : World) : Calls Tryz.prog 142 #[.int .i64 t] w (Ret w fun v L => v = .bool (isThread t) ∧ L = []) := by
  refine calls1 Tryz.func142 rfl tabOk w _ rfl _ rfl [] trivial trivial _ (by decide) ?_
  refine CaseB.mk (fun h => ?_) (fun h => ?_)
  all_goals
    refine retw [] ⟨?_, rfl⟩ trivial rfl trivial (fun _ => rfl)
    simp [isThread] at h ⊢
    omega

set_option maxRecDepth 100000 in
theorem isValue_c (t : Int) (w : World) : Calls Tryz.prog 106 #[.int .i64 t] w (Ret w fun v L => v = .bool (isValue t) ∧ L = []) := by
  refine calls1 Tryz.func106 rfl tabOk w _ rfl _ rfl [] trivial trivial _ (by decide) ?_
  refine CaseB.mk (fun h => ?_) (fun h => ?_)
  all_goals
    refine retw [] ⟨?_, rfl⟩ trivial rfl trivial (fun _ => rfl)
    simp [isValue] at h ⊢
    omega

theorem wrapN (k n : Nat) (h : k < n) (hn : n ≤ 4294967296) : IntKind.i64.wrap ((k : Int) + 1) = ((k + 1 : Nat) : Int) := by
  rw [IntKind.wrap_i64]; omega

set_option maxRecDepth 100000 in
theorem threads_c (m : Chan) (i s g : Sl) (w : World) (h : At w [slo i cInt 1 m.items, slo s cLet 2 m.senders, slo g cInt 1 m.getters]) (hb : m.small) :
    Calls Tryz.prog 145 #[chanV m i s g] w (Ret w fun v L => ∃ y : Sl, v = y.val m.threads.length ∧ L = [own y 3 cInt 1 m.threads]) := by
  obtain ⟨b1, b2, b3⟩ := hb
  refine calls1 Tryz.func145 rfl tabOk w _ rfl _ rfl _ h ⟨rfl, rfl, rfl, rfl, rfl, rfl, trivial⟩ _ (by decide) ?_
  refine LoopW.mk ⟨{ p : Nat × Sl // p.1 ≤ m.senders.length },
    fun p => .mk [(1, .p 0 0), (3, .v (p.1.2.val ((m.senders.take p.1.1).map Letter.t).length)), (7, .v (s.val m.senders.length)), (8, .v (.int .i64 m.senders.length)), (9, .v (.int .i64 p.1.1))] 1 0 [(0, 119, 5)] [((0, 3), .v (g.val m.getters.length))] [own p.1.2 3 cInt 1 ((m.senders.take p.1.1).map Letter.t), slo s cLet 2 m.senders, slo g cInt 1 m.getters],
    fun p => m.senders.length - p.1.1, ⟨(0, ⟨none, 0⟩), Nat.zero_le _⟩, ?_, ?_⟩
  · refine weak_mk [99, 1, 2] ?_ ?_ ?_ ?_ ?_ rfl rfl
    · repeat (first | exact trivial | refine ⟨⟨_, rfl, (by first | exact .of rfl | exact .lit rfl | exact .of (by first | (rfl)) | exact .lit (by first | (rfl))), (by first | exact trivial | exact Nat.le_of_ble_eq_true rfl)⟩, ?_⟩)
    · repeat (first | exact trivial | refine ⟨⟨(by first | exact .head _ | exact .tail _ (.head _) | exact .tail _ (.tail _ (.head _)) | exact .tail _ (.tail _ (.tail _ (.head _))) | exact .tail _ (.tail _ (.tail _ (.tail _ (.head _)))) | exact .tail _ (.tail _ (.tail _ (.tail _ (.tail _ (.head _))))) | exact .tail _ (.tail _ (.tail _ (.tail _ (.tail _ (.tail _ (.head _)))))) | exact .tail _ (.tail _ (.tail _ (.tail _ (.tail _ (.tail _ (.tail _ (.head _))))))) | exact .tail _ (.tail _ (.tail _ (.tail _ (.tail _ (.tail _ (.tail _ (.tail _ (.head _)))))))) | exact .tail _ (.tail _ (.tail _ (.tail _ (.tail _ (.tail _ (.tail _ (.tail _ (.tail _ (.head _)))))))))), Nat.le_of_ble_eq_true rfl⟩, ?_⟩)
    · repeat (first | exact trivial | refine ⟨⟨_, rfl, (by first | exact .of rfl | exact .lit rfl | exact .of (by first | (rfl)) | exact .lit (by first | (rfl))), (by first | exact trivial | exact Nat.le_of_ble_eq_true rfl)⟩, ?_⟩)
    · repeat (first | exact trivial | refine ⟨⟨_, rfl⟩, ?_⟩)
    · repeat (first | exact trivial | refine ⟨.inl ⟨_, rfl, (by first | rfl | (rfl))⟩, ?_⟩ | refine ⟨.inr ⟨Nat.le_of_ble_eq_true rfl, rfl, rfl, rfl, rfl⟩, ?_⟩)
  · rintro ⟨⟨k, out⟩, hk⟩
    simp only at hk
    refine CaseB.mk (fun h => ?_) (fun h => ?_)
    · have hlt : k < m.senders.length := by simpa using h
      have hT : (m.senders.take (k + 1)).map Letter.t = (m.senders.take k).map Letter.t ++ [m.senders[k].t] := by
        rw [List.take_succ_eq_append_getElem hlt, List.map_append]; rfl
      refine stop_idx encLet tabOk rfl rfl rfl rfl rfl ⟨rfl, rfl⟩ (by first | exact rdAt 0 rfl | exact rdOwnAt 0 rfl | exact rdAt 1 rfl | exact rdOwnAt 1 rfl | exact rdAt 2 rfl | exact rdOwnAt 2 rfl | exact rdAt 3 rfl | exact rdOwnAt 3 rfl | exact rdAt 4 rfl | exact rdOwnAt 4 rfl | exact rdAt 5 rfl | exact rdOwnAt 5 rfl | exact rdAt 6 rfl | exact rdOwnAt 6 rfl | exact rdAt 7 rfl | exact rdOwnAt 7 rfl | exact rdAt 8 rfl | exact rdOwnAt 8 rfl | exact rdAt 9 rfl | exact rdOwnAt 9 rfl | exact rdAt 10 rfl | exact rdOwnAt 10 rfl | exact rdAt 11 rfl | exact rdOwnAt 11 rfl | exact rdAt 12 rfl | exact rdOwnAt 12 rfl | exact rdAt 13 rfl | exact rdOwnAt 13 rfl | exact rdAt 14 rfl | exact rdOwnAt 14 rfl | exact rdAt 15 rfl | exact rdOwnAt 15 rfl | exact rdAt 16 rfl | exact rdOwnAt 16 rfl | exact rdAt 17 rfl | exact rdOwnAt 17 rfl | exact rdAt 18 rfl | exact rdOwnAt 18 rfl | exact rdAt 19 rfl | exact rdOwnAt 19 rfl | exact rdAt 20 rfl | exact rdOwnAt 20 rfl | exact rdAt 21 rfl | exact rdOwnAt 21 rfl | exact rdAt 22 rfl | exact rdOwnAt 22 rfl | exact rdAt 23 rfl | exact rdOwnAt 23 rfl) k rfl (by first | omega | (simp; done) | (simp; omega) | (unfold maxLen; omega) | (unfold maxLen; simp; done) | (unfold maxLen; simp; omega)) (fun ad => ?_)
      refine AllSl.mk fun y => ?_
      refine stop_app encInt 1 tabOk (ys := [m.senders[k].t]) rfl rfl rfl rfl rfl rfl rfl rfl rfl (by decide) ⟨rfl, rfl⟩ rfl (by first | exact rdAt 0 rfl | exact rdOwnAt 0 rfl | exact rdAt 1 rfl | exact rdOwnAt 1 rfl | exact rdAt 2 rfl | exact rdOwnAt 2 rfl | exact rdAt 3 rfl | exact rdOwnAt 3 rfl | exact rdAt 4 rfl | exact rdOwnAt 4 rfl | exact rdAt 5 rfl | exact rdOwnAt 5 rfl | exact rdAt 6 rfl | exact rdOwnAt 6 rfl | exact rdAt 7 rfl | exact rdOwnAt 7 rfl | exact rdAt 8 rfl | exact rdOwnAt 8 rfl | exact rdAt 9 rfl | exact rdOwnAt 9 rfl | exact rdAt 10 rfl | exact rdOwnAt 10 rfl | exact rdAt 11 rfl | exact rdOwnAt 11 rfl | exact rdAt 12 rfl | exact rdOwnAt 12 rfl | exact rdAt 13 rfl | exact rdOwnAt 13 rfl | exact rdAt 14 rfl | exact rdOwnAt 14 rfl | exact rdAt 15 rfl | exact rdOwnAt 15 rfl | exact rdAt 16 rfl | exact rdOwnAt 16 rfl | exact rdAt 17 rfl | exact rdOwnAt 17 rfl | exact rdAt 18 rfl | exact rdOwnAt 18 rfl | exact rdAt 19 rfl | exact rdOwnAt 19 rfl | exact rdAt 20 rfl | exact rdOwnAt 20 rfl | exact rdAt 21 rfl | exact rdOwnAt 21 rfl | exact rdAt 22 rfl | exact rdOwnAt 22 rfl | exact rdAt 23 rfl | exact rdOwnAt 23 rfl) (by first | omega | (simp; done) | (simp; omega) | (unfold maxLen; omega) | (unfold maxLen; simp; done) | (unfold maxLen; simp; omega)) (by first | omega | (simp; done) | (simp; omega) | (unfold maxLen; omega) | (unfold maxLen; simp; done) | (unfold maxLen; simp; omega)) (fun z => ?_)
      refine ⟨⟨(k + 1, z), by omega⟩, ?_, by simp; omega⟩
      have hw := wrapN k _ hlt b2
      refine weak_mk [0, 2, 3] ?_ ?_ ?_ ?_ ?_ rfl rfl
      · repeat (first | exact trivial | refine ⟨⟨_, rfl, (by first | exact .of rfl | exact .lit rfl | exact .of (by first | ((first | (rw [hT]; done) | (simp only; done) | exact congrArg (fun z => SV.v (Value.int .i64 z)) hw))) | exact .lit (by first | ((first | (rw [hT]; done) | (simp only [hT]; done) | exact congrArg (fun z => SV.v (Value.int .i64 z)) hw)))), (by first | exact trivial | exact Nat.le_of_ble_eq_true rfl)⟩, ?_⟩)
      · repeat (first | exact trivial | refine ⟨⟨(by first | exact .head _ | exact .tail _ (.head _) | exact .tail _ (.tail _ (.head _)) | exact .tail _ (.tail _ (.tail _ (.head _))) | exact .tail _ (.tail _ (.tail _ (.tail _ (.head _)))) | exact .tail _ (.tail _ (.tail _ (.tail _ (.tail _ (.head _))))) | exact .tail _ (.tail _ (.tail _ (.tail _ (.tail _ (.tail _ (.head _)))))) | exact .tail _ (.tail _ (.tail _ (.tail _ (.tail _ (.tail _ (.tail _ (.head _))))))) | exact .tail _ (.tail _ (.tail _ (.tail _ (.tail _ (.tail _ (.tail _ (.tail _ (.head _)))))))) | exact .tail _ (.tail _ (.tail _ (.tail _ (.tail _ (.tail _ (.tail _ (.tail _ (.tail _ (.head _)))))))))), Nat.le_of_ble_eq_true rfl⟩, ?_⟩)
      · repeat (first | exact trivial | refine ⟨⟨_, rfl, (by first | exact .of rfl | exact .lit rfl | exact .of (by first | ((first | (rw [hT]; done) | (simp only [hT]; done) | exact congrArg (fun z => SV.v (Value.int .i64 z)) hw))) | exact .lit (by first | ((first | (rw [hT]; done) | (simp only [hT]; done) | exact congrArg (fun z => SV.v (Value.int .i64 z)) hw)))), (by first | exact trivial | exact Nat.le_of_ble_eq_true rfl)⟩, ?_⟩)
      · repeat (first | exact trivial | refine ⟨⟨_, rfl⟩, ?_⟩)
      · repeat (first | exact trivial | refine ⟨.inl ⟨_, rfl, (by first | rfl | ((first | (rw [hT]; done) | (simp only [hT]; done) | exact congrArg (fun z => SV.v (Value.int .i64 z)) hw)))⟩, ?_⟩ | refine ⟨.inr ⟨Nat.le_of_ble_eq_true rfl, rfl, rfl, rfl, rfl⟩, ?_⟩)
    · have hge : m.senders.length ≤ k := by simpa using h
      have hT : (m.senders.take k).map Letter.t = m.senders.map Letter.t := by rw [List.take_of_length_le hge]
      refine stop_appK encInt tabOk  rfl rfl rfl rfl rfl rfl rfl rfl rfl (by decide) ⟨rfl, rfl⟩ (by first | exact isAt 0 rfl | exact isAt 1 rfl | exact isAt 2 rfl | exact isAt 3 rfl | exact isAt 4 rfl | exact isAt 5 rfl | exact isAt 6 rfl | exact isAt 7 rfl | exact isAt 8 rfl | exact isAt 9 rfl | exact isAt 10 rfl | exact isAt 11 rfl) (by first | exact rdAt 0 rfl | exact rdOwnAt 0 rfl | exact rdAt 1 rfl | exact rdOwnAt 1 rfl | exact rdAt 2 rfl | exact rdOwnAt 2 rfl | exact rdAt 3 rfl | exact rdOwnAt 3 rfl | exact rdAt 4 rfl | exact rdOwnAt 4 rfl | exact rdAt 5 rfl | exact rdOwnAt 5 rfl | exact rdAt 6 rfl | exact rdOwnAt 6 rfl | exact rdAt 7 rfl | exact rdOwnAt 7 rfl | exact rdAt 8 rfl | exact rdOwnAt 8 rfl | exact rdAt 9 rfl | exact rdOwnAt 9 rfl | exact rdAt 10 rfl | exact rdOwnAt 10 rfl | exact rdAt 11 rfl | exact rdOwnAt 11 rfl | exact rdAt 12 rfl | exact rdOwnAt 12 rfl | exact rdAt 13 rfl | exact rdOwnAt 13 rfl | exact rdAt 14 rfl | exact rdOwnAt 14 rfl | exact rdAt 15 rfl | exact rdOwnAt 15 rfl | exact rdAt 16 rfl | exact rdOwnAt 16 rfl | exact rdAt 17 rfl | exact rdOwnAt 17 rfl | exact rdAt 18 rfl | exact rdOwnAt 18 rfl | exact rdAt 19 rfl | exact rdOwnAt 19 rfl | exact rdAt 20 rfl | exact rdOwnAt 20 rfl | exact rdAt 21 rfl | exact rdOwnAt 21 rfl | exact rdAt 22 rfl | exact rdOwnAt 22 rfl | exact rdAt 23 rfl | exact rdOwnAt 23 rfl) (by first | omega | (simp; done) | (simp; omega) | (unfold maxLen; omega) | (unfold maxLen; simp; done) | (unfold maxLen; simp; omega)) (by first | omega | (simp; done) | (simp; omega) | (unfold maxLen; omega) | (unfold maxLen; simp; done) | (unfold maxLen; simp; omega)) (fun z => ?_)
      exact retw [0] ⟨z, rfl, rfl⟩ ⟨.inl ⟨_, rfl, (by first | rfl | ((simp only [hT, Chan.threads])))⟩, trivial⟩ rfl ⟨rfl, trivial⟩ (fun _ => (by first | rfl | ((simp only [hT, Chan.threads, resV, SV.den]))))

end Go.Proofs.YtklclbcckjhdpaaGreat

namespace Go.Proofs.YtklclbcckjhdpaaGreat

open Go Go.Sx Go.RowKit

/-- Lists equal up to place k. -/
theorem take_eq_succ {α : Type} {xs ys : List α} {k : Nat} (h : xs.take k = ys.take k) (hx : k < xs.length) (hy : k < ys.length) : (xs[k] = ys[k] → xs.take (k + 1) = ys.take (k + 1)) ∧ (xs[k] ≠ ys[k] → xs ≠ ys) := by
  refine ⟨fun e => by rw [List.take_succ_eq_append_getElem hx, List.take_succ_eq_append_getElem hy, h, e], fun e he => ?_⟩
  subst he
  exact e rfl

end Go.Proofs.YtklclbcckjhdpaaGreat

namespace Go.Sx

open Go Go.RowKit

/-- The slice from place l on. -/
def Sl.cut (i : Sl) (l sz : Nat) : Sl := ⟨if i.c = l then i.a else i.a.map (·.add (l * sz)), i.c - l⟩

theorem RdS.cut {w : World} {i : Sl} {sz n l h : Nat} {cs : List Value} (hr : RdS w i sz cs n) (h1 : l ≤ h) (h2 : h ≤ n) : RdS w (i.cut l sz) sz ((cs.drop (l * sz)).take ((h - l) * sz)) (h - l) := by
  obtain ⟨g1, g2, g3, g4⟩ := hr
  have e1 : (h - l) * sz ≤ n * sz - l * sz := by rw [← Nat.sub_mul]; exact Nat.mul_le_mul_right _ (by omega)
  refine ⟨by rw [List.length_take, List.length_drop, g1]; omega, by simp only [Sl.cut]; omega, by simp only [Sl.cut]; omega, fun h0 => ?_⟩
  obtain ⟨ad, had, hc⟩ := g4 (by omega)
  refine ⟨ad.add (l * sz), by simp only [Sl.cut]; rw [if_neg (by omega), had]; rfl, fun j u hu => ?_⟩
  rw [addr_add_add]
  refine hc _ u ?_
  rw [List.getElem?_take] at hu
  split at hu
  · rw [List.getElem?_drop] at hu; exact hu
  · cases hu

theorem cut_foot {i : Sl} {l sz n m b : Nat} (h : m ≤ n) (hf : (fSl true (i.cut l sz) sz [] m).foot b) : (fSl true i sz [] n).foot b := by
  obtain ⟨h0, ad, had, rfl⟩ := hf
  refine ⟨by omega, ?_⟩
  simp only [Sl.cut] at had
  split at had
  · exact ⟨ad, had, rfl⟩
  · cases hi : i.a with
    | none => rw [hi] at had; simp at had
    | some a0 => rw [hi] at had; simp at had; exact ⟨a0, rfl, by rw [← had, block_add]⟩

section

variable {α : Type} {enc : α → List Value} {sz : Nat}

theorem cells_cut (he : Enc enc sz) (xs : List α) (l h : Nat) : (((cells enc xs).drop (l * sz)).take ((h - l) * sz)) = cells enc ((xs.drop l).take (h - l)) := by
  rw [cells_take he, cells_drop he]

/-- A part of a slice, for a call. -/
theorem atCut (he : Enc enc sz) {w : World} {Q : Nat → Prop} {o : Bool} {i : Sl} {xs : List α} (l h : Nat) (h1 : l ≤ h) (h2 : h ≤ xs.length) {ys : List α} (hy : ys = (xs.drop l).take (h - l))
    (hr : (fSl o i sz (cells enc xs) xs.length).P w ∧ ∀ b, (fSl o i sz (cells enc xs) xs.length).foot b → Q b) :
    (fSl o (i.cut l sz) sz (cells enc ys) ys.length).P w ∧ ∀ b, (fSl o (i.cut l sz) sz (cells enc ys) ys.length).foot b → Q b := by
  have := (show RdS w i sz (cells enc xs) xs.length from hr.1).cut h1 h2
  rw [cells_cut he] at this
  subst hy
  have hl : ((xs.drop l).take (h - l)).length = h - l := by simp; omega
  refine ⟨?_, fun b hb => hr.2 b ?_⟩
  · show RdS w (i.cut l sz) sz _ _
    rw [hl]
    exact this
  · exact cut_foot (m := ((xs.drop l).take (h - l)).length) (n := xs.length) (by rw [hl]; omega) hb

end

def bndV (T : List (Nat × SV)) (d : Int) : Option Operand → Option Int
  | none => some d
  | some y => match evalO T y with
    | some (.v (.int _ m)) => some m
    | _ => none

section

variable {E : Env} {ti : Nat → TI} {A : Nat → Nat} {T : List (Nat × SV)} {n c : Nat} {B : List (Nat × TypeId × Nat)} {M : List ((Nat × Nat) × SV)} {F Fs : List Fct} {o : Oper} {next : St → Prop} {a : Act} {w : World}

theorem bndV_some (hT : TD E A T n c a w) {d : Int} {y : Operand} {m : Int} (h : bndV T d (some y) = some m) : ∃ kd, a.eval y = .int kd m := by
  simp only [bndV] at h
  split at h
  · rename_i k q hq
    simp at h; subst h
    exact ⟨k, (evalO_sound hT hq).1⟩
  · cases h

theorem run_cut {P : Program} {t e : TypeId} {ie : TypeInfo} (ht : P.underlying t = some (.slice e)) (hi : P.info? e = some ie) (i : Sl) (k l h : Nat) (lo hi' : Option Value) (hlo : (lo = none ∧ l = 0) ∨ ∃ kd, lo = some (.int kd (l : Int))) (hhi : (hi' = none ∧ h = k) ∨ ∃ kd, hi' = some (.int kd (h : Int))) (h1 : l ≤ h) (h2 : h ≤ k) (h3 : k ≤ i.c) :
    (Instr.sliceAt t (i.val k) lo hi' none).run P w = .ok ((i.cut l ie.size).val (h - l)) w := by
  rcases hlo with ⟨rfl, rfl⟩ | ⟨kd, rfl⟩ <;> rcases hhi with ⟨rfl, rfl⟩ | ⟨kd2, rfl⟩ <;>
    simp [Instr.sliceAt, Instr.slice, underlying, ht, Sl.val, Instr.sliceBounds, run_sliceBound, run_sizeOf hi, Sl.cut, h1, show h ≤ i.c by omega]

theorem cut_run (hti : ∀ t, TIok E.P t (ti t)) (hT : TD E A T n c a w) {t e : TypeId} {x : Operand} {lo hi : Option Operand} {i : Sl} {k : Nat} {ml mh : Int} {sz : Nat} {agg : Bool} {size : Nat} {zero : List Value} {fs : List (Nat × Nat × Bool)} {ik : Option IntKind} {kk bytes : Nat} {agg2 : Bool} {zero2 : List Value} {fs2 : List (Nat × Nat × Bool)} {el2 : Option TypeId} {ik2 : Option IntKind} {kk2 bytes2 : Nat}
    (hop : o.op = .slice t x lo hi none) (hx : evalO T x = some (.v (i.val k)))
    (ht : ti t = .mk agg size zero fs (some e) ik kk bytes) (hte : ti e = .mk agg2 sz zero2 fs2 el2 ik2 kk2 bytes2)
    (hlo : bndV T 0 lo = some ml) (hhi : bndV T (k : Int) hi = some mh) {l h : Nat} (el : ml = (l : Int)) (eh : mh = (h : Int)) (h1 : l ≤ h) (h2 : h ≤ k) (h3 : k ≤ i.c) :
    (execOp a.eval o).run E.P w = .ok (.value ((i.cut l sz).val (h - l))) w := by
  have htt := hti t
  rw [ht] at htt
  obtain ⟨ii, dd, z, e1, e2, e3, e4, e5, e6, e7, e8, e9, e10, e11⟩ := tiSum_parts htt
  have htt2 := hti e
  rw [hte] at htt2
  obtain ⟨ii2, dd2, z2, k1, k2, k3, k4, k5, k6, k7, k8, k9, k10, k11⟩ := tiSum_parts htt2
  have hdd := el_slice e8
  subst el; subst eh
  have hx' : a.eval x = i.val k := (evalO_sound hT hx).1
  have := run_cut (P := E.P) (w := w) (by rw [e2, hdd]) k1 i k l h (lo.map a.eval) (hi.map a.eval) (by
    cases lo with
    | none => simp only [bndV, Option.some.injEq] at hlo; exact .inl ⟨rfl, by omega⟩
    | some y => obtain ⟨kd, e⟩ := bndV_some hT hlo; exact .inr ⟨kd, by simp [e]⟩) (by
    cases hi with
    | none => simp only [bndV, Option.some.injEq] at hhi; exact .inl ⟨rfl, by omega⟩
    | some y => obtain ⟨kd, e⟩ := bndV_some hT hhi; exact .inr ⟨kd, by simp [e]⟩) h1 h2 h3
  rw [k4] at this
  simp only [execOp, hop, hx', Option.map_none, this, Sem.run_bind, Sem.run_pure, Result.andThen_ok]

theorem d_cut {t e : TypeId} {x : Operand} {lo hi : Option Operand} {i : Sl} {k : Nat} {ml mh : Int} {sz : Nat} {d : Nat} {cs : List Value} {agg : Bool} {size : Nat} {zero : List Value} {fs : List (Nat × Nat × Bool)} {ik : Option IntKind} {kk bytes : Nat} {agg2 : Bool} {zero2 : List Value} {fs2 : List (Nat × Nat × Bool)} {el2 : Option TypeId} {ik2 : Option IntKind} {kk2 bytes2 : Nat}
    (hti : ∀ t, TIok E.P t (ti t)) (hop : o.op = .slice t x lo hi none) (hx : evalO T x = some (.v (i.val k)))
    (ht : ti t = .mk agg size zero fs (some e) ik kk bytes) (hte : ti e = .mk agg2 sz zero2 fs2 el2 ik2 kk2 bytes2) (hd : Dst E o d)
    (hlo : bndV T 0 lo = some ml) (hhi : bndV T (k : Int) hi = some mh) (hF : ∀ w, (∀ f ∈ Fs, f.P w) → RdS w i sz cs k)
    (l h m : Nat) (el : ml = (l : Int)) (eh : mh = (h : Int)) (h1 : l ≤ h) (h2 : h ≤ k) (hm : m = h - l) {n0 : Nat} {B0 : List (Nat × TypeId × Nat)} {Ms : List ((Nat × Nat) × SV)}
    (hnext : next (.mk ((d, .v ((i.cut l sz).val m)) :: T) n c B M F)) :
    OpW (∀ A, ∃ s : SV, (∀ a w, WD E A n0 B0 Ms Fs w → TD E A T n c a w → (execOp a.eval o).run E.P w = .ok (.value (s.den A)) w ∧ s.okT n c w) ∧ (∃ d, Dst E o d ∧ next (.mk ((d, s) :: T) n c B M F))) := by
  refine ⟨fun A => ⟨.v ((i.cut l sz).val m), fun a w hW hT => ?_, d, hd, hnext⟩⟩
  obtain ⟨_, g2, _, _⟩ := hF w (fun f hf => (hW.fct f hf).1)
  subst hm
  exact ⟨cut_run hti hT hop hx ht hte hlo hhi el eh h1 h2 g2, trivial⟩

theorem bin_run (hT : TD E A T n c a w) {op : BinOp} {t t' : TypeId} {x y : Operand} {u v r : Value} (hop : o.op = .binOp op t x y t') (hx : evalV T x = some u) (hy : evalV T y = some v)
    (hg : (eqGuard op t x y u v).run E.P w = .ok () w) (hb : (binOp op t u v).run E.P w = .ok r w) : (execOp a.eval o).run E.P w = .ok (.value r) w := by
  simp only [execOp, hop, evalV_sound hT hx, evalV_sound hT hy, Sem.run_bind, hg, Result.andThen_ok, hb, Sem.run_pure]

theorem d_bin {op : BinOp} {t t' : TypeId} {x y : Operand} {u v : Value} {d : Nat} (hop : o.op = .binOp op t x y t') (hx : evalV T x = some u) (hy : evalV T y = some v) (hd : Dst E o d) (r : Value)
    (hg : ∀ w, (eqGuard op t x y u v).run E.P w = .ok () w) (hb : ∀ w, (binOp op t u v).run E.P w = .ok r w) {n0 : Nat} {B0 : List (Nat × TypeId × Nat)} {Ms : List ((Nat × Nat) × SV)}
    (hnext : next (.mk ((d, .v r) :: T) n c B M F)) :
    OpW (∀ A, ∃ s : SV, (∀ a w, WD E A n0 B0 Ms Fs w → TD E A T n c a w → (execOp a.eval o).run E.P w = .ok (.value (s.den A)) w ∧ s.okT n c w) ∧ (∃ d, Dst E o d ∧ next (.mk ((d, s) :: T) n c B M F))) :=
  ⟨fun _A => ⟨.v r, fun _a w _hW hT => ⟨bin_run hT hop hx hy (hg w) (hb w), trivial⟩, d, hd, hnext⟩⟩

end

end Go.Sx

namespace Go.Sx

open Go Go.RowKit

/-- The facts that stand at a world, none of them about block g. -/
def AtP (w : World) (g : Nat) : List Fct → Prop
  | [] => True
  | f :: r => (f.P w ∧ ∀ b, f.foot b → b < w.heap.size ∧ b ≠ g) ∧ AtP w g r

theorem AtP.at {w : World} {g : Nat} : ∀ {F : List Fct}, AtP w g F → At w F
  | [], _ => trivial
  | _ :: _, h => ⟨⟨h.1.1, fun b hb => (h.1.2 b hb).1⟩, AtP.at h.2⟩

theorem AtP.all {w : World} {g : Nat} : ∀ {F : List Fct}, AtP w g F → ∀ f ∈ F, ∀ b, f.foot b → b ≠ g
  | [], _, f, hf => by cases hf
  | _ :: _, h, f, hf => by
    rcases List.mem_cons.1 hf with rfl | hf
    · exact fun b hb => (h.1.2 b hb).2
    · exact AtP.all h.2 f hf

/-- Block g is the variable of type ty with these cells. -/
def Blk (w : World) (g : Nat) (ty : TypeId) (cs : List Value) : Prop := w.heap[g]? = some (.cells cs.toArray ty (0, 0))

section

variable {P : Program} {f : FuncId} {fn : Func} {x : Code} {R : Ending → World → Prop} {ti : Nat → TI}

variable (hf : P.funcs[f]? = some fn) (hb : fn.body = some x) (hti : ∀ t, TIok P t (ti t)) (w : World) (N : Nat) (hN : fn.ntmps = N) (rs : List ResultVar) (hrs : fn.results.toList = rs) (g : Nat) (ty : TypeId) (cs : List Value) (sz : Nat) (hsz : listLen cs = sz) (hg : Blk w g ty cs) (F : List Fct) (hF : AtP w g F) (ho : initOk F)
  include hf hb hti hN hrs hsz hg hF ho

end

section

variable {E : Env} {ti : Nat → TI} {A : Nat → Nat} {T : List (Nat × SV)} {n c : Nat} {B : List (Nat × TypeId × Nat)} {M : List ((Nat × Nat) × SV)} {F Fs : List Fct} {o : Oper} {next : St → Prop} {a : Act} {w w' : World}

def lookBT : List (Nat × TypeId × Nat) → Nat → Option (TypeId × Nat)
  | [], _ => none
  | (k, t, sz) :: r, k' => match Nat.beq k k' with
    | true => some (t, sz)
    | false => lookBT r k'

theorem lookBT_mem : ∀ {B : List (Nat × TypeId × Nat)} {k t sz : Nat}, lookBT B k = some (t, sz) → (k, t, sz) ∈ B
  | [], _, _, _, h => by simp [lookBT] at h
  | (k, t, sz) :: r, k', t', sz', h => by
    simp only [lookBT] at h
    split at h
    · rename_i hb
      obtain rfl := Nat.eq_of_beq_eq_true hb
      simp at h
      obtain ⟨rfl, rfl⟩ := h
      simp
    · exact List.mem_cons_of_mem _ (lookBT_mem h)

/-- A block of which all cells are known. -/
theorem WD.blk (h : WD E A n B M F w) {k ty sz : Nat} {cs : List Value} (hB : (k, ty, sz) ∈ B) (hM : loadN M k 0 sz = some cs) : Blk w (A k) ty cs ∧ cs.length = sz := by
  obtain ⟨_, _, _, cs0, h4, h5⟩ := h.key k ty sz hB
  obtain ⟨g1, g2⟩ := loadN_spec (fun k o v hv => (h.mem k o v hv).2.1) hM
  refine ⟨?_, g1⟩
  unfold Blk
  rw [h4]
  congr 1
  have : cs0 = cs.toArray := by
    apply Array.ext
    · simp [h5, g1]
    · intro j h1 h2
      have := g2 j cs[j] (List.getElem?_eq_getElem (by simpa using h2))
      rw [cell_of_row _ _ _ _ _ _ h4, Nat.zero_add] at this
      obtain ⟨_, e⟩ := Array.getElem?_eq_some_iff.1 this
      simpa using e
  rw [this]

theorem call_enter (hT : TD E A T n c a w) {k : Call} {fo : Operand} {g : FuncId} {cap : List (Nat × Nat)} {l : List SV} (hc : callable E.P g = true)
    (hop : o.op = .call k) (hk : k.callee = .value fo) (hf : evalO T fo = some (.f g cap)) (ha : evalOs T k.args.toList = some l) :
    (execOp a.eval o).run E.P w = .ok (.enter g ((l.map (SV.den A)) ++ cap.map (fun x => ptr A x.1 x.2)).toArray) w := by
  have hargs : (k.args.map a.eval).toList = l.map (SV.den A) := by rw [Array.toList_map]; exact evalOs_sound hT ha
  have hfv := (evalO_sound hT hf).1
  have hcat : (k.args.map a.eval) ++ (cap.map (fun x => ptr A x.1 x.2)).toArray = ((l.map (SV.den A)) ++ cap.map (fun x => ptr A x.1 x.2)).toArray := by
    apply Array.ext'; rw [Array.toList_append, hargs]
  simp only [execOp, hop, resolve, hk, Sem.run_bind, hfv, SV.den, Deferred.ofValue, Sem.run_pure, Result.andThen_ok, Array.empty_append, invoke, hcat, run_callFunc hc]

end

end Go.Sx
