/- The seat's base for 'Sx': its types, its functions. Printed by a program out of the translation. -/
import Derived.Test.YtpopeaoklccgcaaRows
import Derived.Test.YtpopeaoklccgcaaSxj
namespace Go.Proofs.Ytpopeaoklccgcaa
open Go Go.Sx Go.RowKit

def tab : List (Nat × TI) := [
  (2, .mk false 1 [.int .i64 0] [] none (some .i64) 0 8),
  (3, .mk false 1 [.int .i64 0] [] none (some .i64) 0 8),
  (4, .mk false 1 [.bool false] [] none none 1 1),
  (5, .mk false 1 [.int .u8 0] [] none (some .u8) 0 1),
  (6, .mk false 1 [.int .u8 0] [] none (some .u8) 0 1),
  (7, .mk true 4 [.int .i64 0, .int .i64 0, .bool false, .int .u8 0] [(0, 1, false), (1, 1, false), (2, 1, false), (3, 1, false)] none none 0 24),
  (8, .mk true 4 [.int .i64 0, .int .i64 0, .bool false, .int .u8 0] [(0, 1, false), (1, 1, false), (2, 1, false), (3, 1, false)] none none 0 24),
  (9, .mk false 1 [.string ⟨#[]⟩] [] none none 2 16),
  (10, .mk false 1 [.string ⟨#[]⟩] [] none none 2 16),
  (11, .mk false 1 [.string ⟨#[]⟩] [] none none 2 16),
  (12, .mk false 1 [.int .u64 0] [] none (some .u64) 0 8),
  (13, .mk true 2 [.string ⟨#[]⟩, .int .u64 0] [(0, 1, false), (1, 1, false)] none none 0 24),
  (14, .mk true 2 [.string ⟨#[]⟩, .int .u64 0] [(0, 1, false), (1, 1, false)] none none 0 24),
  (15, .mk false 1 [.pointer none] [] none none 0 8),
  (16, .mk false 1 [.pointer none] [] none none 0 8),
  (17, .mk false 1 [.pointer none] [] none none 0 8),
  (18, .mk true 1 [.pointer none] [(0, 1, false)] none none 0 8),
  (19, .mk true 1 [.pointer none] [(0, 1, false)] none none 0 8),
  (21, .mk false 1 [.int .i32 0] [] none (some .i32) 0 4),
  (22, .mk false 1 [.slice none 0 0] [] (some 3) none 3 24),
  (23, .mk false 1 [.slice none 0 0] [] (some 140) none 3 24),
  (24, .mk false 1 [.slice none 0 0] [] (some 142) none 3 24),
  (25, .mk false 1 [.slice none 0 0] [] (some 144) none 3 24),
  (26, .mk false 1 [.slice none 0 0] [] (some 146) none 3 24),
  (27, .mk false 1 [.slice none 0 0] [] (some 150) none 3 24),
  (28, .mk true 9 [.slice none 0 0, .slice none 0 0, .slice none 0 0, .slice none 0 0, .slice none 0 0, .slice none 0 0, .slice none 0 0, .slice none 0 0, .int .i64 0] [(0, 1, false), (1, 1, false), (2, 1, false), (3, 1, false), (4, 1, false), (5, 1, false), (6, 1, false), (7, 1, false), (8, 1, false)] none none 0 200),
  (29, .mk true 9 [.slice none 0 0, .slice none 0 0, .slice none 0 0, .slice none 0 0, .slice none 0 0, .slice none 0 0, .slice none 0 0, .slice none 0 0, .int .i64 0] [(0, 1, false), (1, 1, false), (2, 1, false), (3, 1, false), (4, 1, false), (5, 1, false), (6, 1, false), (7, 1, false), (8, 1, false)] none none 0 200),
  (32, .mk false 1 [.slice none 0 0] [] (some 85) none 3 24),
  (33, .mk false 1 [.slice none 0 0] [] (some 89) none 3 24),
  (34, .mk false 1 [.slice none 0 0] [] (some 93) none 3 24),
  (35, .mk false 1 [.slice none 0 0] [] (some 70) none 3 24),
  (36, .mk false 1 [.slice none 0 0] [] (some 74) none 3 24),
  (37, .mk true 9 [.slice none 0 0, .slice none 0 0, .slice none 0 0, .slice none 0 0, .slice none 0 0, .slice none 0 0, .slice none 0 0, .slice none 0 0, .int .i64 0] [(0, 1, false), (1, 1, false), (2, 1, false), (3, 1, false), (4, 1, false), (5, 1, false), (6, 1, false), (7, 1, false), (8, 1, false)] none none 0 200),
  (38, .mk true 9 [.slice none 0 0, .slice none 0 0, .slice none 0 0, .slice none 0 0, .slice none 0 0, .slice none 0 0, .slice none 0 0, .slice none 0 0, .int .i64 0] [(0, 1, false), (1, 1, false), (2, 1, false), (3, 1, false), (4, 1, false), (5, 1, false), (6, 1, false), (7, 1, false), (8, 1, false)] none none 0 200),
  (41, .mk false 1 [.slice none 0 0] [] (some 5) none 3 24),
  (42, .mk false 1 [.slice none 0 0] [] (some 49) none 3 24),
  (43, .mk true 5 [.slice none 0 0, .slice none 0 0, .slice none 0 0, .slice none 0 0, .slice none 0 0] [(0, 1, false), (1, 1, false), (2, 1, false), (3, 1, false), (4, 1, false)] none none 0 120),
  (44, .mk true 5 [.slice none 0 0, .slice none 0 0, .slice none 0 0, .slice none 0 0, .slice none 0 0] [(0, 1, false), (1, 1, false), (2, 1, false), (3, 1, false), (4, 1, false)] none none 0 120),
  (49, .mk false 1 [.slice none 0 0] [] (some 111) none 3 24),
  (53, .mk false 1 [.slice none 0 0] [] (some 172) none 3 24),
  (54, .mk true 5 [.slice none 0 0, .slice none 0 0, .slice none 0 0, .slice none 0 0, .slice none 0 0] [(0, 1, false), (1, 1, false), (2, 1, false), (3, 1, false), (4, 1, false)] none none 0 120),
  (55, .mk true 5 [.slice none 0 0, .slice none 0 0, .slice none 0 0, .slice none 0 0, .slice none 0 0] [(0, 1, false), (1, 1, false), (2, 1, false), (3, 1, false), (4, 1, false)] none none 0 120),
  (69, .mk true 3 [.int .i64 0, .int .i64 0, .slice none 0 0] [(0, 1, false), (1, 1, false), (2, 1, false)] none none 0 40),
  (70, .mk true 3 [.int .i64 0, .int .i64 0, .slice none 0 0] [(0, 1, false), (1, 1, false), (2, 1, false)] none none 0 40),
  (72, .mk false 1 [.slice none 0 0] [] (some 161) none 3 24),
  (73, .mk true 5 [.int .i64 0, .slice none 0 0, .slice none 0 0, .slice none 0 0, .bool false] [(0, 1, false), (1, 1, false), (2, 1, false), (3, 1, false), (4, 1, false)] none none 0 88),
  (74, .mk true 5 [.int .i64 0, .slice none 0 0, .slice none 0 0, .slice none 0 0, .bool false] [(0, 1, false), (1, 1, false), (2, 1, false), (3, 1, false), (4, 1, false)] none none 0 88),
  (83, .mk false 1 [.slice none 0 0] [] (some 159) none 3 24),
  (84, .mk true 3 [.int .i64 0, .int .i64 0, .slice none 0 0] [(0, 1, false), (1, 1, false), (2, 1, false)] none none 0 40),
  (85, .mk true 3 [.int .i64 0, .int .i64 0, .slice none 0 0] [(0, 1, false), (1, 1, false), (2, 1, false)] none none 0 40),
  (88, .mk true 4 [.int .i64 0, .int .i64 0, .int .i64 0, .slice none 0 0] [(0, 1, false), (1, 1, false), (2, 1, false), (3, 1, false)] none none 0 48),
  (89, .mk true 4 [.int .i64 0, .int .i64 0, .int .i64 0, .slice none 0 0] [(0, 1, false), (1, 1, false), (2, 1, false), (3, 1, false)] none none 0 48),
  (92, .mk true 2 [.int .i64 0, .slice none 0 0] [(0, 1, false), (1, 1, false)] none none 0 32),
  (93, .mk true 2 [.int .i64 0, .slice none 0 0] [(0, 1, false), (1, 1, false)] none none 0 32),
  (110, .mk true 3 [.int .i64 0, .int .i64 0, .int .i64 0] [(0, 1, false), (1, 1, false), (2, 1, false)] none none 0 24),
  (111, .mk true 3 [.int .i64 0, .int .i64 0, .int .i64 0] [(0, 1, false), (1, 1, false), (2, 1, false)] none none 0 24),
  (119, .mk false 1 [.map none] [] none none 0 8),
  (120, .mk false 1 [.map none] [] none none 0 8),
  (123, .mk false 1 [.slice none 0 0] [] (some 125) none 3 24),
  (124, .mk true 3 [.int .i64 0, .int .i64 0, .int .i64 0] [(0, 1, false), (1, 1, false), (2, 1, false)] none none 0 24),
  (125, .mk true 3 [.int .i64 0, .int .i64 0, .int .i64 0] [(0, 1, false), (1, 1, false), (2, 1, false)] none none 0 24),
  (138, .mk false 1 [.slice none 0 0] [] (some 200) none 3 24),
  (139, .mk true 3 [.int .i64 0, .int .i64 0, .slice none 0 0] [(0, 1, false), (1, 1, false), (2, 1, false)] none none 0 40),
  (140, .mk true 3 [.int .i64 0, .int .i64 0, .slice none 0 0] [(0, 1, false), (1, 1, false), (2, 1, false)] none none 0 40),
  (142, .mk true 4 [.int .i64 0, .int .i64 0, .int .i64 0, .slice none 0 0] [(0, 1, false), (1, 1, false), (2, 1, false), (3, 1, false)] none none 0 48),
  (144, .mk true 2 [.int .i64 0, .slice none 0 0] [(0, 1, false), (1, 1, false)] none none 0 32),
  (146, .mk true 3 [.int .i64 0, .int .i64 0, .slice none 0 0] [(0, 1, false), (1, 1, false), (2, 1, false)] none none 0 40),
  (148, .mk false 1 [.slice none 0 0] [] (some 202) none 3 24),
  (149, .mk true 5 [.int .i64 0, .slice none 0 0, .slice none 0 0, .slice none 0 0, .bool false] [(0, 1, false), (1, 1, false), (2, 1, false), (3, 1, false), (4, 1, false)] none none 0 88),
  (150, .mk true 5 [.int .i64 0, .slice none 0 0, .slice none 0 0, .slice none 0 0, .bool false] [(0, 1, false), (1, 1, false), (2, 1, false), (3, 1, false), (4, 1, false)] none none 0 88),
  (158, .mk true 2 [.int .i64 0, .int .i64 0] [(0, 1, false), (1, 1, false)] none none 0 16),
  (159, .mk true 2 [.int .i64 0, .int .i64 0] [(0, 1, false), (1, 1, false)] none none 0 16),
  (160, .mk true 2 [.int .i64 0, .int .i64 0] [(0, 1, false), (1, 1, false)] none none 0 16),
  (161, .mk true 2 [.int .i64 0, .int .i64 0] [(0, 1, false), (1, 1, false)] none none 0 16),
  (162, .mk false 1 [.pointer none] [] none none 0 8),
  (172, .mk false 1 [.slice none 0 0] [] (some 197) none 3 24),
  (182, .mk true 2 [.slice none 0 0, .int .i64 0] [(0, 1, false), (1, 1, false)] none none 0 32),
  (183, .mk true 2 [.slice none 0 0, .int .i64 0] [(0, 1, false), (1, 1, false)] none none 0 32),
  (190, .mk false 1 [.slice none 0 0] [] (some 9) none 3 24),
  (195, .mk false 1 [.map none] [] none none 0 8),
  (197, .mk true 3 [.int .i64 0, .int .i64 0, .int .i64 0] [(0, 1, false), (1, 1, false), (2, 1, false)] none none 0 24),
  (200, .mk true 2 [.int .i64 0, .int .i64 0] [(0, 1, false), (1, 1, false)] none none 0 16),
  (202, .mk true 2 [.int .i64 0, .int .i64 0] [(0, 1, false), (1, 1, false)] none none 0 16),
  (219, .mk true 4 [.pointer none, .pointer none, .pointer none, .string ⟨#[]⟩] [(0, 1, false), (1, 1, false), (2, 1, false), (3, 1, false)] none none 0 40),
  (220, .mk true 4 [.pointer none, .pointer none, .pointer none, .string ⟨#[]⟩] [(0, 1, false), (1, 1, false), (2, 1, false), (3, 1, false)] none none 0 40),
  (225, .mk false 1 [.int .u32 0] [] none (some .u32) 0 4),
  (226, .mk false 1 [.int .u8 0] [] none (some .u8) 0 1),
  (227, .mk false 1 [.int .u8 0] [] none (some .u8) 0 1),
  (229, .mk false 1 [.pointer none] [] none none 0 8),
  (230, .mk false 1 [.int .i32 0] [] none (some .i32) 0 4),
  (231, .mk false 1 [.int .i32 0] [] none (some .i32) 0 4),
  (239, .mk false 1 [.pointer none] [] none none 0 8),
  (240, .mk false 1 [.int .u64 0] [] none (some .u64) 0 8)]
theorem ti2 : TIok Try.prog 2 (.mk false 1 [.int .i64 0] [] none (some .i64) 0 8) := by
  show tiSum Try.prog 2 = _
  kernel_rfl
theorem ti3 : TIok Try.prog 3 (.mk false 1 [.int .i64 0] [] none (some .i64) 0 8) := by
  show tiSum Try.prog 3 = _
  kernel_rfl
theorem ti4 : TIok Try.prog 4 (.mk false 1 [.bool false] [] none none 1 1) := by
  show tiSum Try.prog 4 = _
  kernel_rfl
theorem ti5 : TIok Try.prog 5 (.mk false 1 [.int .u8 0] [] none (some .u8) 0 1) := by
  show tiSum Try.prog 5 = _
  kernel_rfl
theorem ti6 : TIok Try.prog 6 (.mk false 1 [.int .u8 0] [] none (some .u8) 0 1) := by
  show tiSum Try.prog 6 = _
  kernel_rfl
theorem ti7 : TIok Try.prog 7 (.mk true 4 [.int .i64 0, .int .i64 0, .bool false, .int .u8 0] [(0, 1, false), (1, 1, false), (2, 1, false), (3, 1, false)] none none 0 24) := by
  show tiSum Try.prog 7 = _
  kernel_rfl
theorem ti8 : TIok Try.prog 8 (.mk true 4 [.int .i64 0, .int .i64 0, .bool false, .int .u8 0] [(0, 1, false), (1, 1, false), (2, 1, false), (3, 1, false)] none none 0 24) := by
  show tiSum Try.prog 8 = _
  kernel_rfl
theorem ti9 : TIok Try.prog 9 (.mk false 1 [.string ⟨#[]⟩] [] none none 2 16) := by
  show tiSum Try.prog 9 = _
  kernel_rfl
theorem ti10 : TIok Try.prog 10 (.mk false 1 [.string ⟨#[]⟩] [] none none 2 16) := by
  show tiSum Try.prog 10 = _
  kernel_rfl
theorem ti11 : TIok Try.prog 11 (.mk false 1 [.string ⟨#[]⟩] [] none none 2 16) := by
  show tiSum Try.prog 11 = _
  kernel_rfl
theorem ti12 : TIok Try.prog 12 (.mk false 1 [.int .u64 0] [] none (some .u64) 0 8) := by
  show tiSum Try.prog 12 = _
  kernel_rfl
theorem ti13 : TIok Try.prog 13 (.mk true 2 [.string ⟨#[]⟩, .int .u64 0] [(0, 1, false), (1, 1, false)] none none 0 24) := by
  show tiSum Try.prog 13 = _
  kernel_rfl
theorem ti14 : TIok Try.prog 14 (.mk true 2 [.string ⟨#[]⟩, .int .u64 0] [(0, 1, false), (1, 1, false)] none none 0 24) := by
  show tiSum Try.prog 14 = _
  kernel_rfl
theorem ti15 : TIok Try.prog 15 (.mk false 1 [.pointer none] [] none none 0 8) := by
  show tiSum Try.prog 15 = _
  kernel_rfl
theorem ti16 : TIok Try.prog 16 (.mk false 1 [.pointer none] [] none none 0 8) := by
  show tiSum Try.prog 16 = _
  kernel_rfl
theorem ti17 : TIok Try.prog 17 (.mk false 1 [.pointer none] [] none none 0 8) := by
  show tiSum Try.prog 17 = _
  kernel_rfl
theorem ti18 : TIok Try.prog 18 (.mk true 1 [.pointer none] [(0, 1, false)] none none 0 8) := by
  show tiSum Try.prog 18 = _
  kernel_rfl
theorem ti19 : TIok Try.prog 19 (.mk true 1 [.pointer none] [(0, 1, false)] none none 0 8) := by
  show tiSum Try.prog 19 = _
  kernel_rfl
theorem ti21 : TIok Try.prog 21 (.mk false 1 [.int .i32 0] [] none (some .i32) 0 4) := by
  show tiSum Try.prog 21 = _
  kernel_rfl
theorem ti22 : TIok Try.prog 22 (.mk false 1 [.slice none 0 0] [] (some 3) none 3 24) := by
  show tiSum Try.prog 22 = _
  kernel_rfl
theorem ti23 : TIok Try.prog 23 (.mk false 1 [.slice none 0 0] [] (some 140) none 3 24) := by
  show tiSum Try.prog 23 = _
  kernel_rfl
theorem ti24 : TIok Try.prog 24 (.mk false 1 [.slice none 0 0] [] (some 142) none 3 24) := by
  show tiSum Try.prog 24 = _
  kernel_rfl
theorem ti25 : TIok Try.prog 25 (.mk false 1 [.slice none 0 0] [] (some 144) none 3 24) := by
  show tiSum Try.prog 25 = _
  kernel_rfl
theorem ti26 : TIok Try.prog 26 (.mk false 1 [.slice none 0 0] [] (some 146) none 3 24) := by
  show tiSum Try.prog 26 = _
  kernel_rfl
theorem ti27 : TIok Try.prog 27 (.mk false 1 [.slice none 0 0] [] (some 150) none 3 24) := by
  show tiSum Try.prog 27 = _
  kernel_rfl
theorem ti28 : TIok Try.prog 28 (.mk true 9 [.slice none 0 0, .slice none 0 0, .slice none 0 0, .slice none 0 0, .slice none 0 0, .slice none 0 0, .slice none 0 0, .slice none 0 0, .int .i64 0] [(0, 1, false), (1, 1, false), (2, 1, false), (3, 1, false), (4, 1, false), (5, 1, false), (6, 1, false), (7, 1, false), (8, 1, false)] none none 0 200) := by
  show tiSum Try.prog 28 = _
  kernel_rfl
theorem ti29 : TIok Try.prog 29 (.mk true 9 [.slice none 0 0, .slice none 0 0, .slice none 0 0, .slice none 0 0, .slice none 0 0, .slice none 0 0, .slice none 0 0, .slice none 0 0, .int .i64 0] [(0, 1, false), (1, 1, false), (2, 1, false), (3, 1, false), (4, 1, false), (5, 1, false), (6, 1, false), (7, 1, false), (8, 1, false)] none none 0 200) := by
  show tiSum Try.prog 29 = _
  kernel_rfl
theorem ti32 : TIok Try.prog 32 (.mk false 1 [.slice none 0 0] [] (some 85) none 3 24) := by
  show tiSum Try.prog 32 = _
  kernel_rfl
theorem ti33 : TIok Try.prog 33 (.mk false 1 [.slice none 0 0] [] (some 89) none 3 24) := by
  show tiSum Try.prog 33 = _
  kernel_rfl
theorem ti34 : TIok Try.prog 34 (.mk false 1 [.slice none 0 0] [] (some 93) none 3 24) := by
  show tiSum Try.prog 34 = _
  kernel_rfl
theorem ti35 : TIok Try.prog 35 (.mk false 1 [.slice none 0 0] [] (some 70) none 3 24) := by
  show tiSum Try.prog 35 = _
  kernel_rfl
theorem ti36 : TIok Try.prog 36 (.mk false 1 [.slice none 0 0] [] (some 74) none 3 24) := by
  show tiSum Try.prog 36 = _
  kernel_rfl
theorem ti37 : TIok Try.prog 37 (.mk true 9 [.slice none 0 0, .slice none 0 0, .slice none 0 0, .slice none 0 0, .slice none 0 0, .slice none 0 0, .slice none 0 0, .slice none 0 0, .int .i64 0] [(0, 1, false), (1, 1, false), (2, 1, false), (3, 1, false), (4, 1, false), (5, 1, false), (6, 1, false), (7, 1, false), (8, 1, false)] none none 0 200) := by
  show tiSum Try.prog 37 = _
  kernel_rfl
theorem ti38 : TIok Try.prog 38 (.mk true 9 [.slice none 0 0, .slice none 0 0, .slice none 0 0, .slice none 0 0, .slice none 0 0, .slice none 0 0, .slice none 0 0, .slice none 0 0, .int .i64 0] [(0, 1, false), (1, 1, false), (2, 1, false), (3, 1, false), (4, 1, false), (5, 1, false), (6, 1, false), (7, 1, false), (8, 1, false)] none none 0 200) := by
  show tiSum Try.prog 38 = _
  kernel_rfl
theorem ti41 : TIok Try.prog 41 (.mk false 1 [.slice none 0 0] [] (some 5) none 3 24) := by
  show tiSum Try.prog 41 = _
  kernel_rfl
theorem ti42 : TIok Try.prog 42 (.mk false 1 [.slice none 0 0] [] (some 49) none 3 24) := by
  show tiSum Try.prog 42 = _
  kernel_rfl
theorem ti43 : TIok Try.prog 43 (.mk true 5 [.slice none 0 0, .slice none 0 0, .slice none 0 0, .slice none 0 0, .slice none 0 0] [(0, 1, false), (1, 1, false), (2, 1, false), (3, 1, false), (4, 1, false)] none none 0 120) := by
  show tiSum Try.prog 43 = _
  kernel_rfl
theorem ti44 : TIok Try.prog 44 (.mk true 5 [.slice none 0 0, .slice none 0 0, .slice none 0 0, .slice none 0 0, .slice none 0 0] [(0, 1, false), (1, 1, false), (2, 1, false), (3, 1, false), (4, 1, false)] none none 0 120) := by
  show tiSum Try.prog 44 = _
  kernel_rfl
theorem ti49 : TIok Try.prog 49 (.mk false 1 [.slice none 0 0] [] (some 111) none 3 24) := by
  show tiSum Try.prog 49 = _
  kernel_rfl
theorem ti53 : TIok Try.prog 53 (.mk false 1 [.slice none 0 0] [] (some 172) none 3 24) := by
  show tiSum Try.prog 53 = _
  kernel_rfl
theorem ti54 : TIok Try.prog 54 (.mk true 5 [.slice none 0 0, .slice none 0 0, .slice none 0 0, .slice none 0 0, .slice none 0 0] [(0, 1, false), (1, 1, false), (2, 1, false), (3, 1, false), (4, 1, false)] none none 0 120) := by
  show tiSum Try.prog 54 = _
  kernel_rfl
theorem ti55 : TIok Try.prog 55 (.mk true 5 [.slice none 0 0, .slice none 0 0, .slice none 0 0, .slice none 0 0, .slice none 0 0] [(0, 1, false), (1, 1, false), (2, 1, false), (3, 1, false), (4, 1, false)] none none 0 120) := by
  show tiSum Try.prog 55 = _
  kernel_rfl
theorem ti69 : TIok Try.prog 69 (.mk true 3 [.int .i64 0, .int .i64 0, .slice none 0 0] [(0, 1, false), (1, 1, false), (2, 1, false)] none none 0 40) := by
  show tiSum Try.prog 69 = _
  kernel_rfl
theorem ti70 : TIok Try.prog 70 (.mk true 3 [.int .i64 0, .int .i64 0, .slice none 0 0] [(0, 1, false), (1, 1, false), (2, 1, false)] none none 0 40) := by
  show tiSum Try.prog 70 = _
  kernel_rfl
theorem ti72 : TIok Try.prog 72 (.mk false 1 [.slice none 0 0] [] (some 161) none 3 24) := by
  show tiSum Try.prog 72 = _
  kernel_rfl
theorem ti73 : TIok Try.prog 73 (.mk true 5 [.int .i64 0, .slice none 0 0, .slice none 0 0, .slice none 0 0, .bool false] [(0, 1, false), (1, 1, false), (2, 1, false), (3, 1, false), (4, 1, false)] none none 0 88) := by
  show tiSum Try.prog 73 = _
  kernel_rfl
theorem ti74 : TIok Try.prog 74 (.mk true 5 [.int .i64 0, .slice none 0 0, .slice none 0 0, .slice none 0 0, .bool false] [(0, 1, false), (1, 1, false), (2, 1, false), (3, 1, false), (4, 1, false)] none none 0 88) := by
  show tiSum Try.prog 74 = _
  kernel_rfl
theorem ti83 : TIok Try.prog 83 (.mk false 1 [.slice none 0 0] [] (some 159) none 3 24) := by
  show tiSum Try.prog 83 = _
  kernel_rfl
theorem ti84 : TIok Try.prog 84 (.mk true 3 [.int .i64 0, .int .i64 0, .slice none 0 0] [(0, 1, false), (1, 1, false), (2, 1, false)] none none 0 40) := by
  show tiSum Try.prog 84 = _
  kernel_rfl
theorem ti85 : TIok Try.prog 85 (.mk true 3 [.int .i64 0, .int .i64 0, .slice none 0 0] [(0, 1, false), (1, 1, false), (2, 1, false)] none none 0 40) := by
  show tiSum Try.prog 85 = _
  kernel_rfl
theorem ti88 : TIok Try.prog 88 (.mk true 4 [.int .i64 0, .int .i64 0, .int .i64 0, .slice none 0 0] [(0, 1, false), (1, 1, false), (2, 1, false), (3, 1, false)] none none 0 48) := by
  show tiSum Try.prog 88 = _
  kernel_rfl
theorem ti89 : TIok Try.prog 89 (.mk true 4 [.int .i64 0, .int .i64 0, .int .i64 0, .slice none 0 0] [(0, 1, false), (1, 1, false), (2, 1, false), (3, 1, false)] none none 0 48) := by
  show tiSum Try.prog 89 = _
  kernel_rfl
theorem ti92 : TIok Try.prog 92 (.mk true 2 [.int .i64 0, .slice none 0 0] [(0, 1, false), (1, 1, false)] none none 0 32) := by
  show tiSum Try.prog 92 = _
  kernel_rfl
theorem ti93 : TIok Try.prog 93 (.mk true 2 [.int .i64 0, .slice none 0 0] [(0, 1, false), (1, 1, false)] none none 0 32) := by
  show tiSum Try.prog 93 = _
  kernel_rfl
theorem ti110 : TIok Try.prog 110 (.mk true 3 [.int .i64 0, .int .i64 0, .int .i64 0] [(0, 1, false), (1, 1, false), (2, 1, false)] none none 0 24) := by
  show tiSum Try.prog 110 = _
  kernel_rfl
theorem ti111 : TIok Try.prog 111 (.mk true 3 [.int .i64 0, .int .i64 0, .int .i64 0] [(0, 1, false), (1, 1, false), (2, 1, false)] none none 0 24) := by
  show tiSum Try.prog 111 = _
  kernel_rfl
theorem ti119 : TIok Try.prog 119 (.mk false 1 [.map none] [] none none 0 8) := by
  show tiSum Try.prog 119 = _
  kernel_rfl
theorem ti120 : TIok Try.prog 120 (.mk false 1 [.map none] [] none none 0 8) := by
  show tiSum Try.prog 120 = _
  kernel_rfl
theorem ti123 : TIok Try.prog 123 (.mk false 1 [.slice none 0 0] [] (some 125) none 3 24) := by
  show tiSum Try.prog 123 = _
  kernel_rfl
theorem ti124 : TIok Try.prog 124 (.mk true 3 [.int .i64 0, .int .i64 0, .int .i64 0] [(0, 1, false), (1, 1, false), (2, 1, false)] none none 0 24) := by
  show tiSum Try.prog 124 = _
  kernel_rfl
theorem ti125 : TIok Try.prog 125 (.mk true 3 [.int .i64 0, .int .i64 0, .int .i64 0] [(0, 1, false), (1, 1, false), (2, 1, false)] none none 0 24) := by
  show tiSum Try.prog 125 = _
  kernel_rfl
theorem ti138 : TIok Try.prog 138 (.mk false 1 [.slice none 0 0] [] (some 200) none 3 24) := by
  show tiSum Try.prog 138 = _
  kernel_rfl
theorem ti139 : TIok Try.prog 139 (.mk true 3 [.int .i64 0, .int .i64 0, .slice none 0 0] [(0, 1, false), (1, 1, false), (2, 1, false)] none none 0 40) := by
  show tiSum Try.prog 139 = _
  kernel_rfl
theorem ti140 : TIok Try.prog 140 (.mk true 3 [.int .i64 0, .int .i64 0, .slice none 0 0] [(0, 1, false), (1, 1, false), (2, 1, false)] none none 0 40) := by
  show tiSum Try.prog 140 = _
  kernel_rfl
theorem ti142 : TIok Try.prog 142 (.mk true 4 [.int .i64 0, .int .i64 0, .int .i64 0, .slice none 0 0] [(0, 1, false), (1, 1, false), (2, 1, false), (3, 1, false)] none none 0 48) := by
  show tiSum Try.prog 142 = _
  kernel_rfl
theorem ti144 : TIok Try.prog 144 (.mk true 2 [.int .i64 0, .slice none 0 0] [(0, 1, false), (1, 1, false)] none none 0 32) := by
  show tiSum Try.prog 144 = _
  kernel_rfl
theorem ti146 : TIok Try.prog 146 (.mk true 3 [.int .i64 0, .int .i64 0, .slice none 0 0] [(0, 1, false), (1, 1, false), (2, 1, false)] none none 0 40) := by
  show tiSum Try.prog 146 = _
  kernel_rfl
theorem ti148 : TIok Try.prog 148 (.mk false 1 [.slice none 0 0] [] (some 202) none 3 24) := by
  show tiSum Try.prog 148 = _
  kernel_rfl
theorem ti149 : TIok Try.prog 149 (.mk true 5 [.int .i64 0, .slice none 0 0, .slice none 0 0, .slice none 0 0, .bool false] [(0, 1, false), (1, 1, false), (2, 1, false), (3, 1, false), (4, 1, false)] none none 0 88) := by
  show tiSum Try.prog 149 = _
  kernel_rfl
theorem ti150 : TIok Try.prog 150 (.mk true 5 [.int .i64 0, .slice none 0 0, .slice none 0 0, .slice none 0 0, .bool false] [(0, 1, false), (1, 1, false), (2, 1, false), (3, 1, false), (4, 1, false)] none none 0 88) := by
  show tiSum Try.prog 150 = _
  kernel_rfl
theorem ti158 : TIok Try.prog 158 (.mk true 2 [.int .i64 0, .int .i64 0] [(0, 1, false), (1, 1, false)] none none 0 16) := by
  show tiSum Try.prog 158 = _
  kernel_rfl
theorem ti159 : TIok Try.prog 159 (.mk true 2 [.int .i64 0, .int .i64 0] [(0, 1, false), (1, 1, false)] none none 0 16) := by
  show tiSum Try.prog 159 = _
  kernel_rfl
theorem ti160 : TIok Try.prog 160 (.mk true 2 [.int .i64 0, .int .i64 0] [(0, 1, false), (1, 1, false)] none none 0 16) := by
  show tiSum Try.prog 160 = _
  kernel_rfl
theorem ti161 : TIok Try.prog 161 (.mk true 2 [.int .i64 0, .int .i64 0] [(0, 1, false), (1, 1, false)] none none 0 16) := by
  show tiSum Try.prog 161 = _
  kernel_rfl
theorem ti162 : TIok Try.prog 162 (.mk false 1 [.pointer none] [] none none 0 8) := by
  show tiSum Try.prog 162 = _
  kernel_rfl
theorem ti172 : TIok Try.prog 172 (.mk false 1 [.slice none 0 0] [] (some 197) none 3 24) := by
  show tiSum Try.prog 172 = _
  kernel_rfl
theorem ti182 : TIok Try.prog 182 (.mk true 2 [.slice none 0 0, .int .i64 0] [(0, 1, false), (1, 1, false)] none none 0 32) := by
  show tiSum Try.prog 182 = _
  kernel_rfl
theorem ti183 : TIok Try.prog 183 (.mk true 2 [.slice none 0 0, .int .i64 0] [(0, 1, false), (1, 1, false)] none none 0 32) := by
  show tiSum Try.prog 183 = _
  kernel_rfl
theorem ti190 : TIok Try.prog 190 (.mk false 1 [.slice none 0 0] [] (some 9) none 3 24) := by
  show tiSum Try.prog 190 = _
  kernel_rfl
theorem ti195 : TIok Try.prog 195 (.mk false 1 [.map none] [] none none 0 8) := by
  show tiSum Try.prog 195 = _
  kernel_rfl
theorem ti197 : TIok Try.prog 197 (.mk true 3 [.int .i64 0, .int .i64 0, .int .i64 0] [(0, 1, false), (1, 1, false), (2, 1, false)] none none 0 24) := by
  show tiSum Try.prog 197 = _
  kernel_rfl
theorem ti200 : TIok Try.prog 200 (.mk true 2 [.int .i64 0, .int .i64 0] [(0, 1, false), (1, 1, false)] none none 0 16) := by
  show tiSum Try.prog 200 = _
  kernel_rfl
theorem ti202 : TIok Try.prog 202 (.mk true 2 [.int .i64 0, .int .i64 0] [(0, 1, false), (1, 1, false)] none none 0 16) := by
  show tiSum Try.prog 202 = _
  kernel_rfl
theorem ti219 : TIok Try.prog 219 (.mk true 4 [.pointer none, .pointer none, .pointer none, .string ⟨#[]⟩] [(0, 1, false), (1, 1, false), (2, 1, false), (3, 1, false)] none none 0 40) := by
  show tiSum Try.prog 219 = _
  kernel_rfl
theorem ti220 : TIok Try.prog 220 (.mk true 4 [.pointer none, .pointer none, .pointer none, .string ⟨#[]⟩] [(0, 1, false), (1, 1, false), (2, 1, false), (3, 1, false)] none none 0 40) := by
  show tiSum Try.prog 220 = _
  kernel_rfl
theorem ti225 : TIok Try.prog 225 (.mk false 1 [.int .u32 0] [] none (some .u32) 0 4) := by
  show tiSum Try.prog 225 = _
  kernel_rfl
theorem ti226 : TIok Try.prog 226 (.mk false 1 [.int .u8 0] [] none (some .u8) 0 1) := by
  show tiSum Try.prog 226 = _
  kernel_rfl
theorem ti227 : TIok Try.prog 227 (.mk false 1 [.int .u8 0] [] none (some .u8) 0 1) := by
  show tiSum Try.prog 227 = _
  kernel_rfl
theorem ti229 : TIok Try.prog 229 (.mk false 1 [.pointer none] [] none none 0 8) := by
  show tiSum Try.prog 229 = _
  kernel_rfl
theorem ti230 : TIok Try.prog 230 (.mk false 1 [.int .i32 0] [] none (some .i32) 0 4) := by
  show tiSum Try.prog 230 = _
  kernel_rfl
theorem ti231 : TIok Try.prog 231 (.mk false 1 [.int .i32 0] [] none (some .i32) 0 4) := by
  show tiSum Try.prog 231 = _
  kernel_rfl
theorem ti239 : TIok Try.prog 239 (.mk false 1 [.pointer none] [] none none 0 8) := by
  show tiSum Try.prog 239 = _
  kernel_rfl
theorem ti240 : TIok Try.prog 240 (.mk false 1 [.int .u64 0] [] none (some .u64) 0 8) := by
  show tiSum Try.prog 240 = _
  kernel_rfl
theorem tabOk (t : TypeId) : TIok Try.prog t (tiOf tab t) := tiOf_ok (P := Try.prog) (tab := tab) (TIall.of_R (show TIallR Try.prog tab from ⟨ti2, ti3, ti4, ti5, ti6, ti7, ti8, ti9, ti10, ti11, ti12, ti13, ti14, ti15, ti16, ti17, ti18, ti19, ti21, ti22, ti23, ti24, ti25, ti26, ti27, ti28, ti29, ti32, ti33, ti34, ti35, ti36, ti37, ti38, ti41, ti42, ti43, ti44, ti49, ti53, ti54, ti55, ti69, ti70, ti72, ti73, ti74, ti83, ti84, ti85, ti88, ti89, ti92, ti93, ti110, ti111, ti119, ti120, ti123, ti124, ti125, ti138, ti139, ti140, ti142, ti144, ti146, ti148, ti149, ti150, ti158, ti159, ti160, ti161, ti162, ti172, ti182, ti183, ti190, ti195, ti197, ti200, ti202, ti219, ti220, ti225, ti226, ti227, ti229, ti230, ti231, ti239, ti240, trivial⟩)) t
theorem cl3 : callable Try.prog 3 = true := by kernel_rfl
theorem cl4 : callable Try.prog 4 = true := by kernel_rfl
theorem cl5 : callable Try.prog 5 = true := by kernel_rfl
theorem cl6 : callable Try.prog 6 = true := by kernel_rfl
theorem cl7 : callable Try.prog 7 = true := by kernel_rfl
theorem cl8 : callable Try.prog 8 = true := by kernel_rfl
theorem cl9 : callable Try.prog 9 = true := by kernel_rfl
theorem cl10 : callable Try.prog 10 = true := by kernel_rfl
theorem cl11 : callable Try.prog 11 = true := by kernel_rfl
theorem cl12 : callable Try.prog 12 = true := by kernel_rfl
theorem cl13 : callable Try.prog 13 = true := by kernel_rfl
theorem cl14 : callable Try.prog 14 = true := by kernel_rfl
theorem cl15 : callable Try.prog 15 = true := by kernel_rfl
theorem cl16 : callable Try.prog 16 = true := by kernel_rfl
theorem cl17 : callable Try.prog 17 = true := by kernel_rfl
theorem cl18 : callable Try.prog 18 = true := by kernel_rfl
theorem cl19 : callable Try.prog 19 = true := by kernel_rfl
theorem cl20 : callable Try.prog 20 = true := by kernel_rfl
theorem cl21 : callable Try.prog 21 = true := by kernel_rfl
theorem cl22 : callable Try.prog 22 = true := by kernel_rfl
theorem cl23 : callable Try.prog 23 = true := by kernel_rfl
theorem cl24 : callable Try.prog 24 = true := by kernel_rfl
theorem cl25 : callable Try.prog 25 = true := by kernel_rfl
theorem cl26 : callable Try.prog 26 = true := by kernel_rfl
theorem cl27 : callable Try.prog 27 = true := by kernel_rfl
theorem cl28 : callable Try.prog 28 = true := by kernel_rfl
theorem cl29 : callable Try.prog 29 = true := by kernel_rfl
theorem cl30 : callable Try.prog 30 = true := by kernel_rfl
theorem cl31 : callable Try.prog 31 = true := by kernel_rfl
theorem cl32 : callable Try.prog 32 = true := by kernel_rfl
theorem cl33 : callable Try.prog 33 = true := by kernel_rfl
theorem cl34 : callable Try.prog 34 = true := by kernel_rfl
theorem cl35 : callable Try.prog 35 = true := by kernel_rfl
theorem cl36 : callable Try.prog 36 = true := by kernel_rfl
theorem cl37 : callable Try.prog 37 = true := by kernel_rfl
theorem cl38 : callable Try.prog 38 = true := by kernel_rfl
theorem cl39 : callable Try.prog 39 = true := by kernel_rfl
theorem cl40 : callable Try.prog 40 = true := by kernel_rfl
theorem cl41 : callable Try.prog 41 = true := by kernel_rfl
theorem cl42 : callable Try.prog 42 = true := by kernel_rfl
theorem cl43 : callable Try.prog 43 = true := by kernel_rfl
theorem cl44 : callable Try.prog 44 = true := by kernel_rfl
theorem cl45 : callable Try.prog 45 = true := by kernel_rfl
theorem cl46 : callable Try.prog 46 = true := by kernel_rfl
theorem cl47 : callable Try.prog 47 = true := by kernel_rfl
theorem cl48 : callable Try.prog 48 = true := by kernel_rfl
theorem cl49 : callable Try.prog 49 = true := by kernel_rfl
theorem cl50 : callable Try.prog 50 = true := by kernel_rfl
theorem cl51 : callable Try.prog 51 = true := by kernel_rfl
theorem cl52 : callable Try.prog 52 = true := by kernel_rfl
theorem cl53 : callable Try.prog 53 = true := by kernel_rfl
theorem cl54 : callable Try.prog 54 = true := by kernel_rfl
theorem cl55 : callable Try.prog 55 = true := by kernel_rfl
theorem cl56 : callable Try.prog 56 = true := by kernel_rfl
theorem cl57 : callable Try.prog 57 = true := by kernel_rfl
theorem cl58 : callable Try.prog 58 = true := by kernel_rfl
theorem cl59 : callable Try.prog 59 = true := by kernel_rfl
theorem cl60 : callable Try.prog 60 = true := by kernel_rfl
theorem cl61 : callable Try.prog 61 = true := by kernel_rfl
theorem cl62 : callable Try.prog 62 = true := by kernel_rfl
theorem cl63 : callable Try.prog 63 = true := by kernel_rfl
theorem cl64 : callable Try.prog 64 = true := by kernel_rfl
theorem cl65 : callable Try.prog 65 = true := by kernel_rfl
theorem cl66 : callable Try.prog 66 = true := by kernel_rfl
theorem cl67 : callable Try.prog 67 = true := by kernel_rfl
theorem cl68 : callable Try.prog 68 = true := by kernel_rfl
theorem cl69 : callable Try.prog 69 = true := by kernel_rfl
theorem cl70 : callable Try.prog 70 = true := by kernel_rfl
theorem cl71 : callable Try.prog 71 = true := by kernel_rfl
theorem cl72 : callable Try.prog 72 = true := by kernel_rfl
theorem cl73 : callable Try.prog 73 = true := by kernel_rfl
theorem cl74 : callable Try.prog 74 = true := by kernel_rfl
theorem cl75 : callable Try.prog 75 = true := by kernel_rfl
theorem cl76 : callable Try.prog 76 = true := by kernel_rfl
theorem cl77 : callable Try.prog 77 = true := by kernel_rfl
theorem cl78 : callable Try.prog 78 = true := by kernel_rfl
theorem cl79 : callable Try.prog 79 = true := by kernel_rfl
theorem cl80 : callable Try.prog 80 = true := by kernel_rfl
theorem cl81 : callable Try.prog 81 = true := by kernel_rfl
theorem cl82 : callable Try.prog 82 = true := by kernel_rfl
theorem cl83 : callable Try.prog 83 = true := by kernel_rfl
theorem cl84 : callable Try.prog 84 = true := by kernel_rfl
theorem cl85 : callable Try.prog 85 = true := by kernel_rfl
theorem cl86 : callable Try.prog 86 = true := by kernel_rfl
theorem cl87 : callable Try.prog 87 = true := by kernel_rfl
theorem cl88 : callable Try.prog 88 = true := by kernel_rfl
theorem cl89 : callable Try.prog 89 = true := by kernel_rfl
theorem cl90 : callable Try.prog 90 = true := by kernel_rfl
theorem cl91 : callable Try.prog 91 = true := by kernel_rfl
theorem cl92 : callable Try.prog 92 = true := by kernel_rfl
theorem cl93 : callable Try.prog 93 = true := by kernel_rfl
theorem cl94 : callable Try.prog 94 = true := by kernel_rfl
theorem cl95 : callable Try.prog 95 = true := by kernel_rfl
theorem cl96 : callable Try.prog 96 = true := by kernel_rfl
theorem cl97 : callable Try.prog 97 = true := by kernel_rfl
theorem cl98 : callable Try.prog 98 = true := by kernel_rfl
theorem cl99 : callable Try.prog 99 = true := by kernel_rfl
theorem cl100 : callable Try.prog 100 = true := by kernel_rfl
theorem cl101 : callable Try.prog 101 = true := by kernel_rfl
theorem cl102 : callable Try.prog 102 = true := by kernel_rfl
theorem cl103 : callable Try.prog 103 = true := by kernel_rfl
theorem cl104 : callable Try.prog 104 = true := by kernel_rfl
theorem cl105 : callable Try.prog 105 = true := by kernel_rfl
theorem cl106 : callable Try.prog 106 = true := by kernel_rfl
theorem cl107 : callable Try.prog 107 = true := by kernel_rfl
theorem cl108 : callable Try.prog 108 = true := by kernel_rfl
theorem cl109 : callable Try.prog 109 = true := by kernel_rfl
theorem cl110 : callable Try.prog 110 = true := by kernel_rfl
theorem cl111 : callable Try.prog 111 = true := by kernel_rfl
theorem cl112 : callable Try.prog 112 = true := by kernel_rfl
theorem cl113 : callable Try.prog 113 = true := by kernel_rfl
theorem cl114 : callable Try.prog 114 = true := by kernel_rfl
theorem cl115 : callable Try.prog 115 = true := by kernel_rfl
theorem cl116 : callable Try.prog 116 = true := by kernel_rfl
theorem cl117 : callable Try.prog 117 = true := by kernel_rfl
theorem cl118 : callable Try.prog 118 = true := by kernel_rfl
theorem cl119 : callable Try.prog 119 = true := by kernel_rfl
theorem cl120 : callable Try.prog 120 = true := by kernel_rfl
theorem cl121 : callable Try.prog 121 = true := by kernel_rfl
theorem cl122 : callable Try.prog 122 = true := by kernel_rfl
theorem cl123 : callable Try.prog 123 = true := by kernel_rfl
theorem cl124 : callable Try.prog 124 = true := by kernel_rfl
theorem cl125 : callable Try.prog 125 = true := by kernel_rfl
theorem cl126 : callable Try.prog 126 = true := by kernel_rfl
theorem cl127 : callable Try.prog 127 = true := by kernel_rfl
theorem cl128 : callable Try.prog 128 = true := by kernel_rfl
theorem cl129 : callable Try.prog 129 = true := by kernel_rfl
theorem cl130 : callable Try.prog 130 = true := by kernel_rfl
theorem cl131 : callable Try.prog 131 = true := by kernel_rfl
theorem cl132 : callable Try.prog 132 = true := by kernel_rfl
theorem cl133 : callable Try.prog 133 = true := by kernel_rfl
theorem cl134 : callable Try.prog 134 = true := by kernel_rfl
theorem cl135 : callable Try.prog 135 = true := by kernel_rfl
theorem cl136 : callable Try.prog 136 = true := by kernel_rfl
theorem cl137 : callable Try.prog 137 = true := by kernel_rfl
theorem cl138 : callable Try.prog 138 = true := by kernel_rfl
theorem cl139 : callable Try.prog 139 = true := by kernel_rfl
theorem cl140 : callable Try.prog 140 = true := by kernel_rfl
theorem cl141 : callable Try.prog 141 = true := by kernel_rfl
theorem cl142 : callable Try.prog 142 = true := by kernel_rfl
theorem cl143 : callable Try.prog 143 = true := by kernel_rfl
theorem cl144 : callable Try.prog 144 = true := by kernel_rfl
theorem cl145 : callable Try.prog 145 = true := by kernel_rfl
theorem cl146 : callable Try.prog 146 = true := by kernel_rfl
theorem cl147 : callable Try.prog 147 = true := by kernel_rfl
theorem cl148 : callable Try.prog 148 = true := by kernel_rfl
theorem cl149 : callable Try.prog 149 = true := by kernel_rfl
theorem cl150 : callable Try.prog 150 = true := by kernel_rfl
theorem cl151 : callable Try.prog 151 = true := by kernel_rfl
theorem cl152 : callable Try.prog 152 = true := by kernel_rfl
theorem cl153 : callable Try.prog 153 = true := by kernel_rfl
theorem cl154 : callable Try.prog 154 = true := by kernel_rfl
theorem cl155 : callable Try.prog 155 = true := by kernel_rfl
theorem cl156 : callable Try.prog 156 = true := by kernel_rfl
theorem cl157 : callable Try.prog 157 = true := by kernel_rfl
theorem cl158 : callable Try.prog 158 = true := by kernel_rfl
theorem cl159 : callable Try.prog 159 = true := by kernel_rfl
theorem cl160 : callable Try.prog 160 = true := by kernel_rfl
theorem cl161 : callable Try.prog 161 = true := by kernel_rfl
theorem cl162 : callable Try.prog 162 = true := by kernel_rfl
theorem cl163 : callable Try.prog 163 = true := by kernel_rfl
theorem cl164 : callable Try.prog 164 = true := by kernel_rfl
theorem cl165 : callable Try.prog 165 = true := by kernel_rfl
theorem cl166 : callable Try.prog 166 = true := by kernel_rfl
theorem cl167 : callable Try.prog 167 = true := by kernel_rfl
end Go.Proofs.Ytpopeaoklccgcaa
