/- The seat's base for 'Sx': its types, its functions. Printed by a program out of the translation. -/
import Derived.Test.YtpemppacedfifaaRows
import Derived.Test.YtpemppacedfifaaSxj
namespace Go.Proofs.Ytpemppacedfifaa
open Go Go.Sx Go.RowKit

def tab : List (Nat × TI) := [
  (2, .mk false 1 [.int .i64 0] [] none (some .i64) 0 8),
  (3, .mk false 1 [.int .i64 0] [] none (some .i64) 0 8),
  (4, .mk false 1 [.bool false] [] none none 1 1),
  (5, .mk false 1 [.int .u8 0] [] none (some .u8) 0 1),
  (6, .mk false 1 [.int .u8 0] [] none (some .u8) 0 1),
  (7, .mk true 4 [.int .i64 0, .int .i64 0, .bool false, .int .u8 0] [(0, 1, false), (1, 1, false), (2, 1, false), (3, 1, false)] none none 0 24),
  (8, .mk true 4 [.int .i64 0, .int .i64 0, .bool false, .int .u8 0] [(0, 1, false), (1, 1, false), (2, 1, false), (3, 1, false)] none none 0 24),
  (9, .mk false 1 [.string ⟨#[]⟩] [] none none 2 16),
  (10, .mk false 1 [.string ⟨#[]⟩] [] none none 2 16),
  (11, .mk false 1 [.string ⟨#[]⟩] [] none none 2 16),
  (12, .mk false 1 [.int .u64 0] [] none (some .u64) 0 8),
  (13, .mk true 2 [.string ⟨#[]⟩, .int .u64 0] [(0, 1, false), (1, 1, false)] none none 0 24),
  (14, .mk true 2 [.string ⟨#[]⟩, .int .u64 0] [(0, 1, false), (1, 1, false)] none none 0 24),
  (15, .mk false 1 [.pointer none] [] none none 0 8),
  (16, .mk false 1 [.pointer none] [] none none 0 8),
  (17, .mk false 1 [.pointer none] [] none none 0 8),
  (18, .mk true 1 [.pointer none] [(0, 1, false)] none none 0 8),
  (19, .mk true 1 [.pointer none] [(0, 1, false)] none none 0 8),
  (21, .mk false 1 [.int .i32 0] [] none (some .i32) 0 4),
  (22, .mk false 1 [.slice none 0 0] [] (some 5) none 3 24),
  (23, .mk false 1 [.slice none 0 0] [] (some 3) none 3 24),
  (24, .mk false 1 [.slice none 0 0] [] (some 32) none 3 24),
  (25, .mk true 3 [.slice none 0 0, .int .i64 0, .slice none 0 0] [(0, 1, false), (1, 1, false), (2, 1, false)] none none 0 56),
  (26, .mk true 3 [.slice none 0 0, .int .i64 0, .slice none 0 0] [(0, 1, false), (1, 1, false), (2, 1, false)] none none 0 56),
  (31, .mk true 2 [.int .i64 0, .bool false] [(0, 1, false), (1, 1, false)] none none 0 16),
  (32, .mk true 2 [.int .i64 0, .bool false] [(0, 1, false), (1, 1, false)] none none 0 16),
  (44, .mk false 1 [.slice none 0 0] [] (some 82) none 3 24),
  (45, .mk true 3 [.slice none 0 0, .int .i64 0, .slice none 0 0] [(0, 1, false), (1, 1, false), (2, 1, false)] none none 0 56),
  (46, .mk true 3 [.slice none 0 0, .int .i64 0, .slice none 0 0] [(0, 1, false), (1, 1, false), (2, 1, false)] none none 0 56),
  (57, .mk false 1 [.pointer none] [] none none 0 8),
  (73, .mk false 1 [.map none] [] none none 0 8),
  (76, .mk false 1 [.pointer none] [] none none 0 8),
  (78, .mk true 2 [.slice none 0 0, .int .i64 0] [(0, 1, false), (1, 1, false)] none none 0 32),
  (79, .mk true 2 [.slice none 0 0, .int .i64 0] [(0, 1, false), (1, 1, false)] none none 0 32),
  (82, .mk true 2 [.int .i64 0, .bool false] [(0, 1, false), (1, 1, false)] none none 0 16),
  (87, .mk false 1 [.int .u64 0] [] none (some .u64) 0 8),
  (89, .mk false 1 [.int .i64 0] [] none (some .i64) 0 8),
  (98, .mk false 1 [.int .u32 0] [] none (some .u32) 0 4),
  (100, .mk false 1 [.int .u64 0] [] none (some .u64) 0 8),
  (101, .mk false 1 [.int .u64 0] [] none (some .u64) 0 8),
  (105, .mk false 1 [.pointer none] [] none none 0 8),
  (107, .mk false 1 [.pointer none] [] none none 0 8),
  (111, .mk true 4 [.pointer none, .pointer none, .pointer none, .string ⟨#[]⟩] [(0, 1, false), (1, 1, false), (2, 1, false), (3, 1, false)] none none 0 40),
  (112, .mk true 4 [.pointer none, .pointer none, .pointer none, .string ⟨#[]⟩] [(0, 1, false), (1, 1, false), (2, 1, false), (3, 1, false)] none none 0 40),
  (117, .mk false 1 [.int .u8 0] [] none (some .u8) 0 1),
  (118, .mk false 1 [.int .u8 0] [] none (some .u8) 0 1),
  (120, .mk false 1 [.pointer none] [] none none 0 8),
  (121, .mk false 1 [.int .i32 0] [] none (some .i32) 0 4),
  (122, .mk false 1 [.int .i32 0] [] none (some .i32) 0 4),
  (125, .mk false 1 [.pointer none] [] none none 0 8)]
theorem ti2 : TIok Try.prog 2 (.mk false 1 [.int .i64 0] [] none (some .i64) 0 8) := by
  show tiSum Try.prog 2 = _
  kernel_rfl
theorem ti3 : TIok Try.prog 3 (.mk false 1 [.int .i64 0] [] none (some .i64) 0 8) := by
  show tiSum Try.prog 3 = _
  kernel_rfl
theorem ti4 : TIok Try.prog 4 (.mk false 1 [.bool false] [] none none 1 1) := by
  show tiSum Try.prog 4 = _
  kernel_rfl
theorem ti5 : TIok Try.prog 5 (.mk false 1 [.int .u8 0] [] none (some .u8) 0 1) := by
  show tiSum Try.prog 5 = _
  kernel_rfl
theorem ti6 : TIok Try.prog 6 (.mk false 1 [.int .u8 0] [] none (some .u8) 0 1) := by
  show tiSum Try.prog 6 = _
  kernel_rfl
theorem ti7 : TIok Try.prog 7 (.mk true 4 [.int .i64 0, .int .i64 0, .bool false, .int .u8 0] [(0, 1, false), (1, 1, false), (2, 1, false), (3, 1, false)] none none 0 24) := by
  show tiSum Try.prog 7 = _
  kernel_rfl
theorem ti8 : TIok Try.prog 8 (.mk true 4 [.int .i64 0, .int .i64 0, .bool false, .int .u8 0] [(0, 1, false), (1, 1, false), (2, 1, false), (3, 1, false)] none none 0 24) := by
  show tiSum Try.prog 8 = _
  kernel_rfl
theorem ti9 : TIok Try.prog 9 (.mk false 1 [.string ⟨#[]⟩] [] none none 2 16) := by
  show tiSum Try.prog 9 = _
  kernel_rfl
theorem ti10 : TIok Try.prog 10 (.mk false 1 [.string ⟨#[]⟩] [] none none 2 16) := by
  show tiSum Try.prog 10 = _
  kernel_rfl
theorem ti11 : TIok Try.prog 11 (.mk false 1 [.string ⟨#[]⟩] [] none none 2 16) := by
  show tiSum Try.prog 11 = _
  kernel_rfl
theorem ti12 : TIok Try.prog 12 (.mk false 1 [.int .u64 0] [] none (some .u64) 0 8) := by
  show tiSum Try.prog 12 = _
  kernel_rfl
theorem ti13 : TIok Try.prog 13 (.mk true 2 [.string ⟨#[]⟩, .int .u64 0] [(0, 1, false), (1, 1, false)] none none 0 24) := by
  show tiSum Try.prog 13 = _
  kernel_rfl
theorem ti14 : TIok Try.prog 14 (.mk true 2 [.string ⟨#[]⟩, .int .u64 0] [(0, 1, false), (1, 1, false)] none none 0 24) := by
  show tiSum Try.prog 14 = _
  kernel_rfl
theorem ti15 : TIok Try.prog 15 (.mk false 1 [.pointer none] [] none none 0 8) := by
  show tiSum Try.prog 15 = _
  kernel_rfl
theorem ti16 : TIok Try.prog 16 (.mk false 1 [.pointer none] [] none none 0 8) := by
  show tiSum Try.prog 16 = _
  kernel_rfl
theorem ti17 : TIok Try.prog 17 (.mk false 1 [.pointer none] [] none none 0 8) := by
  show tiSum Try.prog 17 = _
  kernel_rfl
theorem ti18 : TIok Try.prog 18 (.mk true 1 [.pointer none] [(0, 1, false)] none none 0 8) := by
  show tiSum Try.prog 18 = _
  kernel_rfl
theorem ti19 : TIok Try.prog 19 (.mk true 1 [.pointer none] [(0, 1, false)] none none 0 8) := by
  show tiSum Try.prog 19 = _
  kernel_rfl
theorem ti21 : TIok Try.prog 21 (.mk false 1 [.int .i32 0] [] none (some .i32) 0 4) := by
  show tiSum Try.prog 21 = _
  kernel_rfl
theorem ti22 : TIok Try.prog 22 (.mk false 1 [.slice none 0 0] [] (some 5) none 3 24) := by
  show tiSum Try.prog 22 = _
  kernel_rfl
theorem ti23 : TIok Try.prog 23 (.mk false 1 [.slice none 0 0] [] (some 3) none 3 24) := by
  show tiSum Try.prog 23 = _
  kernel_rfl
theorem ti24 : TIok Try.prog 24 (.mk false 1 [.slice none 0 0] [] (some 32) none 3 24) := by
  show tiSum Try.prog 24 = _
  kernel_rfl
theorem ti25 : TIok Try.prog 25 (.mk true 3 [.slice none 0 0, .int .i64 0, .slice none 0 0] [(0, 1, false), (1, 1, false), (2, 1, false)] none none 0 56) := by
  show tiSum Try.prog 25 = _
  kernel_rfl
theorem ti26 : TIok Try.prog 26 (.mk true 3 [.slice none 0 0, .int .i64 0, .slice none 0 0] [(0, 1, false), (1, 1, false), (2, 1, false)] none none 0 56) := by
  show tiSum Try.prog 26 = _
  kernel_rfl
theorem ti31 : TIok Try.prog 31 (.mk true 2 [.int .i64 0, .bool false] [(0, 1, false), (1, 1, false)] none none 0 16) := by
  show tiSum Try.prog 31 = _
  kernel_rfl
theorem ti32 : TIok Try.prog 32 (.mk true 2 [.int .i64 0, .bool false] [(0, 1, false), (1, 1, false)] none none 0 16) := by
  show tiSum Try.prog 32 = _
  kernel_rfl
theorem ti44 : TIok Try.prog 44 (.mk false 1 [.slice none 0 0] [] (some 82) none 3 24) := by
  show tiSum Try.prog 44 = _
  kernel_rfl
theorem ti45 : TIok Try.prog 45 (.mk true 3 [.slice none 0 0, .int .i64 0, .slice none 0 0] [(0, 1, false), (1, 1, false), (2, 1, false)] none none 0 56) := by
  show tiSum Try.prog 45 = _
  kernel_rfl
theorem ti46 : TIok Try.prog 46 (.mk true 3 [.slice none 0 0, .int .i64 0, .slice none 0 0] [(0, 1, false), (1, 1, false), (2, 1, false)] none none 0 56) := by
  show tiSum Try.prog 46 = _
  kernel_rfl
theorem ti57 : TIok Try.prog 57 (.mk false 1 [.pointer none] [] none none 0 8) := by
  show tiSum Try.prog 57 = _
  kernel_rfl
theorem ti73 : TIok Try.prog 73 (.mk false 1 [.map none] [] none none 0 8) := by
  show tiSum Try.prog 73 = _
  kernel_rfl
theorem ti76 : TIok Try.prog 76 (.mk false 1 [.pointer none] [] none none 0 8) := by
  show tiSum Try.prog 76 = _
  kernel_rfl
theorem ti78 : TIok Try.prog 78 (.mk true 2 [.slice none 0 0, .int .i64 0] [(0, 1, false), (1, 1, false)] none none 0 32) := by
  show tiSum Try.prog 78 = _
  kernel_rfl
theorem ti79 : TIok Try.prog 79 (.mk true 2 [.slice none 0 0, .int .i64 0] [(0, 1, false), (1, 1, false)] none none 0 32) := by
  show tiSum Try.prog 79 = _
  kernel_rfl
theorem ti82 : TIok Try.prog 82 (.mk true 2 [.int .i64 0, .bool false] [(0, 1, false), (1, 1, false)] none none 0 16) := by
  show tiSum Try.prog 82 = _
  kernel_rfl
theorem ti87 : TIok Try.prog 87 (.mk false 1 [.int .u64 0] [] none (some .u64) 0 8) := by
  show tiSum Try.prog 87 = _
  kernel_rfl
theorem ti89 : TIok Try.prog 89 (.mk false 1 [.int .i64 0] [] none (some .i64) 0 8) := by
  show tiSum Try.prog 89 = _
  kernel_rfl
theorem ti98 : TIok Try.prog 98 (.mk false 1 [.int .u32 0] [] none (some .u32) 0 4) := by
  show tiSum Try.prog 98 = _
  kernel_rfl
theorem ti100 : TIok Try.prog 100 (.mk false 1 [.int .u64 0] [] none (some .u64) 0 8) := by
  show tiSum Try.prog 100 = _
  kernel_rfl
theorem ti101 : TIok Try.prog 101 (.mk false 1 [.int .u64 0] [] none (some .u64) 0 8) := by
  show tiSum Try.prog 101 = _
  kernel_rfl
theorem ti105 : TIok Try.prog 105 (.mk false 1 [.pointer none] [] none none 0 8) := by
  show tiSum Try.prog 105 = _
  kernel_rfl
theorem ti107 : TIok Try.prog 107 (.mk false 1 [.pointer none] [] none none 0 8) := by
  show tiSum Try.prog 107 = _
  kernel_rfl
theorem ti111 : TIok Try.prog 111 (.mk true 4 [.pointer none, .pointer none, .pointer none, .string ⟨#[]⟩] [(0, 1, false), (1, 1, false), (2, 1, false), (3, 1, false)] none none 0 40) := by
  show tiSum Try.prog 111 = _
  kernel_rfl
theorem ti112 : TIok Try.prog 112 (.mk true 4 [.pointer none, .pointer none, .pointer none, .string ⟨#[]⟩] [(0, 1, false), (1, 1, false), (2, 1, false), (3, 1, false)] none none 0 40) := by
  show tiSum Try.prog 112 = _
  kernel_rfl
theorem ti117 : TIok Try.prog 117 (.mk false 1 [.int .u8 0] [] none (some .u8) 0 1) := by
  show tiSum Try.prog 117 = _
  kernel_rfl
theorem ti118 : TIok Try.prog 118 (.mk false 1 [.int .u8 0] [] none (some .u8) 0 1) := by
  show tiSum Try.prog 118 = _
  kernel_rfl
theorem ti120 : TIok Try.prog 120 (.mk false 1 [.pointer none] [] none none 0 8) := by
  show tiSum Try.prog 120 = _
  kernel_rfl
theorem ti121 : TIok Try.prog 121 (.mk false 1 [.int .i32 0] [] none (some .i32) 0 4) := by
  show tiSum Try.prog 121 = _
  kernel_rfl
theorem ti122 : TIok Try.prog 122 (.mk false 1 [.int .i32 0] [] none (some .i32) 0 4) := by
  show tiSum Try.prog 122 = _
  kernel_rfl
theorem ti125 : TIok Try.prog 125 (.mk false 1 [.pointer none] [] none none 0 8) := by
  show tiSum Try.prog 125 = _
  kernel_rfl
theorem tabOk (t : TypeId) : TIok Try.prog t (tiOf tab t) := tiOf_ok (P := Try.prog) (tab := tab) (TIall.of_R (show TIallR Try.prog tab from ⟨ti2, ti3, ti4, ti5, ti6, ti7, ti8, ti9, ti10, ti11, ti12, ti13, ti14, ti15, ti16, ti17, ti18, ti19, ti21, ti22, ti23, ti24, ti25, ti26, ti31, ti32, ti44, ti45, ti46, ti57, ti73, ti76, ti78, ti79, ti82, ti87, ti89, ti98, ti100, ti101, ti105, ti107, ti111, ti112, ti117, ti118, ti120, ti121, ti122, ti125, trivial⟩)) t
theorem cl3 : callable Try.prog 3 = true := by kernel_rfl
theorem cl4 : callable Try.prog 4 = true := by kernel_rfl
theorem cl5 : callable Try.prog 5 = true := by kernel_rfl
theorem cl6 : callable Try.prog 6 = true := by kernel_rfl
theorem cl7 : callable Try.prog 7 = true := by kernel_rfl
theorem cl8 : callable Try.prog 8 = true := by kernel_rfl
theorem cl9 : callable Try.prog 9 = true := by kernel_rfl
theorem cl10 : callable Try.prog 10 = true := by kernel_rfl
theorem cl11 : callable Try.prog 11 = true := by kernel_rfl
theorem cl12 : callable Try.prog 12 = true := by kernel_rfl
theorem cl13 : callable Try.prog 13 = true := by kernel_rfl
theorem cl14 : callable Try.prog 14 = true := by kernel_rfl
theorem cl15 : callable Try.prog 15 = true := by kernel_rfl
theorem cl16 : callable Try.prog 16 = true := by kernel_rfl
theorem cl17 : callable Try.prog 17 = true := by kernel_rfl
theorem cl18 : callable Try.prog 18 = true := by kernel_rfl
theorem cl19 : callable Try.prog 19 = true := by kernel_rfl
theorem cl20 : callable Try.prog 20 = true := by kernel_rfl
theorem cl21 : callable Try.prog 21 = true := by kernel_rfl
theorem cl22 : callable Try.prog 22 = true := by kernel_rfl
theorem cl23 : callable Try.prog 23 = true := by kernel_rfl
theorem cl24 : callable Try.prog 24 = true := by kernel_rfl
theorem cl25 : callable Try.prog 25 = true := by kernel_rfl
theorem cl26 : callable Try.prog 26 = true := by kernel_rfl
theorem cl27 : callable Try.prog 27 = true := by kernel_rfl
theorem cl28 : callable Try.prog 28 = true := by kernel_rfl
theorem cl29 : callable Try.prog 29 = true := by kernel_rfl
theorem cl30 : callable Try.prog 30 = true := by kernel_rfl
theorem cl31 : callable Try.prog 31 = true := by kernel_rfl
theorem cl32 : callable Try.prog 32 = true := by kernel_rfl
theorem cl33 : callable Try.prog 33 = true := by kernel_rfl
theorem cl34 : callable Try.prog 34 = true := by kernel_rfl
theorem cl35 : callable Try.prog 35 = true := by kernel_rfl
theorem cl36 : callable Try.prog 36 = true := by kernel_rfl
theorem cl37 : callable Try.prog 37 = true := by kernel_rfl
theorem cl38 : callable Try.prog 38 = true := by kernel_rfl
theorem cl39 : callable Try.prog 39 = true := by kernel_rfl
theorem cl40 : callable Try.prog 40 = true := by kernel_rfl
theorem cl41 : callable Try.prog 41 = true := by kernel_rfl
theorem cl42 : callable Try.prog 42 = true := by kernel_rfl
theorem cl43 : callable Try.prog 43 = true := by kernel_rfl
theorem cl44 : callable Try.prog 44 = true := by kernel_rfl
theorem cl45 : callable Try.prog 45 = true := by kernel_rfl
theorem cl46 : callable Try.prog 46 = true := by kernel_rfl
theorem cl47 : callable Try.prog 47 = true := by kernel_rfl
theorem cl48 : callable Try.prog 48 = true := by kernel_rfl
theorem cl49 : callable Try.prog 49 = true := by kernel_rfl
theorem cl50 : callable Try.prog 50 = true := by kernel_rfl
theorem cl51 : callable Try.prog 51 = true := by kernel_rfl
theorem cl52 : callable Try.prog 52 = true := by kernel_rfl
theorem cl53 : callable Try.prog 53 = true := by kernel_rfl
theorem cl54 : callable Try.prog 54 = true := by kernel_rfl
theorem cl55 : callable Try.prog 55 = true := by kernel_rfl
theorem cl56 : callable Try.prog 56 = true := by kernel_rfl
theorem cl57 : callable Try.prog 57 = true := by kernel_rfl
theorem cl58 : callable Try.prog 58 = true := by kernel_rfl
theorem cl59 : callable Try.prog 59 = true := by kernel_rfl
theorem cl60 : callable Try.prog 60 = true := by kernel_rfl
theorem cl61 : callable Try.prog 61 = true := by kernel_rfl
theorem cl62 : callable Try.prog 62 = true := by kernel_rfl
theorem cl63 : callable Try.prog 63 = true := by kernel_rfl
theorem cl64 : callable Try.prog 64 = true := by kernel_rfl
theorem cl65 : callable Try.prog 65 = true := by kernel_rfl
theorem cl66 : callable Try.prog 66 = true := by kernel_rfl
theorem cl67 : callable Try.prog 67 = true := by kernel_rfl
theorem cl68 : callable Try.prog 68 = true := by kernel_rfl
theorem cl69 : callable Try.prog 69 = true := by kernel_rfl
theorem cl70 : callable Try.prog 70 = true := by kernel_rfl
theorem cl71 : callable Try.prog 71 = true := by kernel_rfl
theorem cl72 : callable Try.prog 72 = true := by kernel_rfl
theorem cl73 : callable Try.prog 73 = true := by kernel_rfl
theorem cl74 : callable Try.prog 74 = true := by kernel_rfl
theorem cl75 : callable Try.prog 75 = true := by kernel_rfl
theorem cl76 : callable Try.prog 76 = true := by kernel_rfl
theorem cl77 : callable Try.prog 77 = true := by kernel_rfl
theorem cl78 : callable Try.prog 78 = true := by kernel_rfl
theorem cl79 : callable Try.prog 79 = true := by kernel_rfl
theorem cl80 : callable Try.prog 80 = true := by kernel_rfl
theorem cl81 : callable Try.prog 81 = true := by kernel_rfl
theorem cl82 : callable Try.prog 82 = true := by kernel_rfl
theorem cl83 : callable Try.prog 83 = true := by kernel_rfl
theorem cl84 : callable Try.prog 84 = true := by kernel_rfl
theorem cl85 : callable Try.prog 85 = true := by kernel_rfl
theorem cl86 : callable Try.prog 86 = true := by kernel_rfl
theorem cl87 : callable Try.prog 87 = true := by kernel_rfl
theorem cl88 : callable Try.prog 88 = true := by kernel_rfl
theorem cl89 : callable Try.prog 89 = true := by kernel_rfl
theorem cl90 : callable Try.prog 90 = true := by kernel_rfl
theorem cl91 : callable Try.prog 91 = true := by kernel_rfl
theorem cl92 : callable Try.prog 92 = true := by kernel_rfl
theorem cl93 : callable Try.prog 93 = true := by kernel_rfl
theorem cl94 : callable Try.prog 94 = true := by kernel_rfl
theorem cl95 : callable Try.prog 95 = true := by kernel_rfl
theorem cl96 : callable Try.prog 96 = true := by kernel_rfl
theorem cl97 : callable Try.prog 97 = true := by kernel_rfl
theorem cl98 : callable Try.prog 98 = true := by kernel_rfl
theorem cl99 : callable Try.prog 99 = true := by kernel_rfl
theorem cl100 : callable Try.prog 100 = true := by kernel_rfl
theorem cl101 : callable Try.prog 101 = true := by kernel_rfl
end Go.Proofs.Ytpemppacedfifaa
