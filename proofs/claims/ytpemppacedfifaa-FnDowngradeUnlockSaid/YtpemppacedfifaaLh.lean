/- Locks: the library's sort. -/
import Derived.Shelf.Sort.Plain
import Derived.Sort.OwnSortedInts
import Derived.Test.YtpemppacedfifaaLg
import Derived.Test.YtpemppacedfifaaSxr
namespace Go.Proofs.Ytpemppacedfifaa
open Go Go.Sx Go.RowKit Go.Shelf

def lays189_ren : Go.Shelf.Ren := ⟨fun | 189 => 76 | 125 => 83 | 257 => 82 | 128 => 93 | 129 => 94 | 294 => 84 | 295 => 85 | 296 => 86 | 297 => 87 | 298 => 88 | 299 => 89 | 216 => 90 | 300 => 91 | 301 => 92 | 328 => 95 | 329 => 96 | 330 => 97 | 331 => 98 | 332 => 99 | 215 => 100 | 343 => 101 | n => n, fun | 28 => 23 | 3 => 3 | 46 => 87 | 0 => 0 | 51 => 98 | 53 => 100 | 4 => 4 | 183 => 90 | 182 => 89 | 131 => 95 | 5 => 5 | 9 => 9 | 218 => 101 | 222 => 105 | 228 => 107 | 229 => 108 | n => n, fun n => n⟩
theorem lays189 : Lays.n189 Try.prog lays189_ren := {
  mixed := by kernel_rfl
  f125 := Try.func83.trans (congrArg some (by kernel_rfl))
  f128 := Try.func93.trans (congrArg some (by kernel_rfl))
  f129 := Try.func94.trans (congrArg some (by kernel_rfl))
  f189 := Try.func76.trans (congrArg some (by kernel_rfl))
  f215 := Try.func100.trans (congrArg some (by kernel_rfl))
  f216 := Try.func90.trans (congrArg some (by kernel_rfl))
  f257 := Try.func82.trans (congrArg some (by kernel_rfl))
  f294 := Try.func84.trans (congrArg some (by kernel_rfl))
  f295 := Try.func85.trans (congrArg some (by kernel_rfl))
  f296 := Try.func86.trans (congrArg some (by kernel_rfl))
  f297 := Try.func87.trans (congrArg some (by kernel_rfl))
  f298 := Try.func88.trans (congrArg some (by kernel_rfl))
  f299 := Try.func89.trans (congrArg some (by kernel_rfl))
  f300 := Try.func91.trans (congrArg some (by kernel_rfl))
  f301 := Try.func92.trans (congrArg some (by kernel_rfl))
  f328 := Try.func95.trans (congrArg some (by kernel_rfl))
  f329 := Try.func96.trans (congrArg some (by kernel_rfl))
  f330 := Try.func97.trans (congrArg some (by kernel_rfl))
  f331 := Try.func98.trans (congrArg some (by kernel_rfl))
  f332 := Try.func99.trans (congrArg some (by kernel_rfl))
  f343 := Try.func101.trans (congrArg some (by kernel_rfl))
  t0 := Try.underlying0
  a0 := Try.isAgg0
  z0 := Try.sizeOf0
  v0 := Try.zeroValue0
  t3 := Try.underlying3
  a3 := Try.isAgg3
  z3 := Try.sizeOf3
  v3 := Try.zeroValue3
  t4 := Try.underlying4
  a4 := Try.isAgg4
  z4 := Try.sizeOf4
  v4 := Try.zeroValue4
  t5 := Try.underlying5
  a5 := Try.isAgg5
  z5 := Try.sizeOf5
  v5 := Try.zeroValue5
  t9 := Try.underlying9
  a9 := Try.isAgg9
  z9 := Try.sizeOf9
  v9 := Try.zeroValue9
  t28 := Try.underlying23
  a28 := Try.isAgg23
  z28 := Try.sizeOf23
  v28 := Try.zeroValue23
  t46 := Try.underlying87
  a46 := Try.isAgg87
  z46 := Try.sizeOf87
  v46 := Try.zeroValue87
  t51 := Try.underlying98
  a51 := Try.isAgg98
  z51 := Try.sizeOf98
  v51 := Try.zeroValue98
  t53 := Try.underlying100
  a53 := Try.isAgg100
  z53 := Try.sizeOf100
  v53 := Try.zeroValue100
  t131 := Try.underlying95
  a131 := Try.isAgg95
  z131 := Try.sizeOf95
  v131 := Try.zeroValue95
  t182 := Try.underlying89
  a182 := Try.isAgg89
  z182 := Try.sizeOf89
  v182 := Try.zeroValue89
  t183 := Try.underlying90
  a183 := Try.isAgg90
  z183 := Try.sizeOf90
  v183 := Try.zeroValue90
  t218 := Try.underlying101
  a218 := Try.isAgg101
  z218 := Try.sizeOf101
  v218 := Try.zeroValue101
  t222 := Try.underlying105
  a222 := Try.isAgg105
  z222 := Try.sizeOf105
  v222 := Try.zeroValue105
  t228 := Try.underlying107
  a228 := Try.isAgg107
  z228 := Try.sizeOf107
  v228 := Try.zeroValue107
  t229 := Try.underlying108
  a229 := Try.isAgg108
  z229 := Try.sizeOf108
  v229 := Try.zeroValue108 }

theorem cells_int (xs : List Int) : cells cInt xs = xs.map (Value.int .i64) := by
  induction xs with
  | nil => rfl
  | cons x r ih => rw [List.map_cons, ← ih]; rfl
def srt (xs : List Int) : List Int := xs.mergeSort fun x y => decide (x ≤ y)
theorem srt_len (xs : List Int) : (srt xs).length = xs.length := List.length_mergeSort xs

theorem sort_c (i : Sl) (xs : List Int) (w : World) (h : AtG w [own i 3 cInt 1 xs] []) (h0 : 0 < xs.length) (hb : xs.length ≤ 4294967296) :
    Calls Try.prog 76 #[i.val xs.length] w (RetG w [own i 3 cInt 1 xs] fun v L => v = .tuple #[] ∧ L = [own i 3 cInt 1 (srt xs)]) := by
  have hown := h.at_.1.1
  rcases own_cases hown with ⟨_, h2, _⟩ | ⟨g, cur, h2, h3, h4, h5, h6, h7⟩
  · omega
  rw [Nat.mul_one, cells_int] at h7
  have hlt : g < w.heap.size := (Array.getElem?_eq_some_iff.1 h3).1
  have hc := Any.slices_Sort_int lays189 g 0 i.c xs w (holds_of_blockI h3 h7) hlt (by omega)
  have hv : i.val xs.length = .slice (some ⟨g, 0, none⟩) xs.length i.c := by simp [Sl.val, h2]
  rw [hv]
  refine Calls.mono hc ?_
  rintro e w' ⟨rfl, n, os, rfl⟩
  have ho := ownsRow_sortedI (base := 0) (os := os) (n := n) (ts := srt xs) (srt_len xs) (Nat.zero_le _) h3 h4 h5 h6
  rw [← hv, ← cells_int] at ho
  have hgr := grownBy_sortedI (w := w) (g := g) (n := n) (os := os) (srt xs).toArray
  have hX : ExtX (gfoot [own i 3 cInt 1 xs]) w (Go.Sort.grow (Go.Sort.putRow (Value.int .i64) (Go.Sort.ahead w n) g 0 (srt xs).toArray) os) :=
    ExtX.grown hgr (fun g' hg => by injection hg with hg; subst hg; exact ⟨_, List.mem_singleton.2 rfl, _, h2, rfl⟩)
  refine ⟨_, [own i 3 cInt 1 (srt xs)], rfl, hX, ⟨fun f hf => ?_, List.pairwise_singleton _ _⟩, rfl, rfl⟩
  simp only [List.mem_singleton] at hf
  subst hf
  refine ⟨?_, rfl, ?_⟩
  · show World.ownsRow _ 0 _ 1 (i.val (srt xs).length) (srt xs).length (cells cInt (srt xs))
    rw [srt_len]
    exact ho
  · rintro b ⟨ad, q1, rfl⟩
    rw [h2] at q1
    injection q1 with q1
    subst q1
    exact ⟨.inr ⟨_, List.mem_singleton.2 rfl, _, h2, rfl⟩, Nat.lt_of_lt_of_le hlt hX.size⟩

theorem insT_perm (r : List Int) (t : Int) : (insT r t).Perm (r ++ [t]) := by
  induction r with
  | nil => exact List.Perm.refl _
  | cons x r ih =>
    rw [insT]
    split
    · exact (List.perm_append_comm (l₁ := [t]) (l₂ := x :: r))
    · exact ih.cons x
theorem srt_ins {r : List Int} {t : Int} (h : r.Pairwise (· ≤ ·)) : srt (r ++ [t]) = insT r t := by
  have h1 : (srt (r ++ [t])).Pairwise (· ≤ ·) := by
    have := List.pairwise_mergeSort (le := fun x y : Int => decide (x ≤ y)) (by intro a b c; simp; omega) (by intro a b; simp; omega) (r ++ [t])
    exact this.imp (fun h => by simpa using h)
  exact List.Perm.eq_of_pairwise (le := fun a b : Int => a ≤ b) (fun a b _ _ h1 h2 => Int.le_antisymm h1 h2) h1 (insT_up h) ((List.mergeSort_perm _ _).trans (insT_perm r t).symm)
end Go.Proofs.Ytpemppacedfifaa

