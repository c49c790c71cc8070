/- The drawer's reader: its beginning, its lists. -/
import Derived.Test.YtpopeaoklccgcaaChc
namespace Go.Proofs.Ytpopeaoklccgcaa

open Go Go.Sx Go.RowKit

set_option maxRecDepth 100000 in
theorem num_c (g : Nat) (bi : Sl) (bs : List UInt8) (p : Nat) (i : Sl) (xs : List Int) (w : World) (hg : Blk w g 183 (rdrV bi bs p)) (h : AtP w g [slo bi cByte 1 bs, slo i cInt 1 xs]) (hb : bs.length ≤ 2000) (hp : p < 1000000000) (h0 : 0 < xs.length) :
    Calls Try.prog 140 #[.pointer (some ⟨g, 0, none⟩), i.val xs.length] w (RetP w g 183 2 fun v cs L => ∃ x : Int, v = .int .i64 x ∧ x ∈ xs ∧ cs = rdrV bi bs (p + 1) ∧ L = []) := by
  refine callsP2 Try.func140 rfl tabOk w _ rfl _ rfl _ 183 _ 2 rfl hg _ h ⟨rfl, rfl, rfl, rfl, trivial⟩ _ (by decide) ?_
  refine stop_callP _ cl139 rfl rfl rfl rfl ⟨rfl, rfl⟩ rfl rfl (fun A w ga hga hW hblk => (pick_c ga bi bs p xs.length w hblk ⟨(by first | exact hW.rdP _ hga rfl 0 rfl | exact hW.rdOwnP _ hga rfl 0 rfl | exact hW.rdP _ hga rfl 1 rfl | exact hW.rdOwnP _ hga rfl 1 rfl | exact hW.rdP _ hga rfl 2 rfl | exact hW.rdOwnP _ hga rfl 2 rfl | exact hW.rdP _ hga rfl 3 rfl | exact hW.rdOwnP _ hga rfl 3 rfl | exact hW.rdP _ hga rfl 4 rfl | exact hW.rdOwnP _ hga rfl 4 rfl | exact hW.rdP _ hga rfl 5 rfl | exact hW.rdOwnP _ hga rfl 5 rfl | exact hW.rdP _ hga rfl 6 rfl | exact hW.rdOwnP _ hga rfl 6 rfl | exact hW.rdP _ hga rfl 7 rfl | exact hW.rdOwnP _ hga rfl 7 rfl | exact hW.rdP _ hga rfl 8 rfl | exact hW.rdOwnP _ hga rfl 8 rfl | exact hW.rdP _ hga rfl 9 rfl | exact hW.rdOwnP _ hga rfl 9 rfl | exact hW.rdP _ hga rfl 10 rfl | exact hW.rdOwnP _ hga rfl 10 rfl | exact hW.rdP _ hga rfl 11 rfl | exact hW.rdOwnP _ hga rfl 11 rfl | exact hW.rdP _ hga rfl 12 rfl | exact hW.rdOwnP _ hga rfl 12 rfl | exact hW.rdP _ hga rfl 13 rfl | exact hW.rdOwnP _ hga rfl 13 rfl | exact hW.rdP _ hga rfl 14 rfl | exact hW.rdOwnP _ hga rfl 14 rfl | exact hW.rdP _ hga rfl 15 rfl | exact hW.rdOwnP _ hga rfl 15 rfl | exact hW.rdP _ hga rfl 16 rfl | exact hW.rdOwnP _ hga rfl 16 rfl | exact hW.rdP _ hga rfl 17 rfl | exact hW.rdOwnP _ hga rfl 17 rfl | exact hW.rdP _ hga rfl 18 rfl | exact hW.rdOwnP _ hga rfl 18 rfl | exact hW.rdP _ hga rfl 19 rfl | exact hW.rdOwnP _ hga rfl 19 rfl | exact hW.rdP _ hga rfl 20 rfl | exact hW.rdOwnP _ hga rfl 20 rfl | exact hW.rdP _ hga rfl 21 rfl | exact hW.rdOwnP _ hga rfl 21 rfl | exact hW.rdP _ hga rfl 22 rfl | exact hW.rdOwnP _ hga rfl 22 rfl | exact hW.rdP _ hga rfl 23 rfl | exact hW.rdOwnP _ hga rfl 23 rfl), trivial⟩ hb hp)) ?_
  rintro v cs L ⟨k, rfl, hk, _, rfl, rfl⟩
  have hlt : k < xs.length := by have := hk (by omega); omega
  refine stop_idx encInt tabOk rfl rfl rfl rfl rfl ⟨rfl, rfl⟩ (by first | exact rdAt 0 rfl | exact rdOwnAt 0 rfl | exact rdAt 1 rfl | exact rdOwnAt 1 rfl | exact rdAt 2 rfl | exact rdOwnAt 2 rfl | exact rdAt 3 rfl | exact rdOwnAt 3 rfl | exact rdAt 4 rfl | exact rdOwnAt 4 rfl | exact rdAt 5 rfl | exact rdOwnAt 5 rfl | exact rdAt 6 rfl | exact rdOwnAt 6 rfl | exact rdAt 7 rfl | exact rdOwnAt 7 rfl | exact rdAt 8 rfl | exact rdOwnAt 8 rfl | exact rdAt 9 rfl | exact rdOwnAt 9 rfl | exact rdAt 10 rfl | exact rdOwnAt 10 rfl | exact rdAt 11 rfl | exact rdOwnAt 11 rfl | exact rdAt 12 rfl | exact rdOwnAt 12 rfl | exact rdAt 13 rfl | exact rdOwnAt 13 rfl | exact rdAt 14 rfl | exact rdOwnAt 14 rfl | exact rdAt 15 rfl | exact rdOwnAt 15 rfl | exact rdAt 16 rfl | exact rdOwnAt 16 rfl | exact rdAt 17 rfl | exact rdOwnAt 17 rfl | exact rdAt 18 rfl | exact rdOwnAt 18 rfl | exact rdAt 19 rfl | exact rdOwnAt 19 rfl | exact rdAt 20 rfl | exact rdOwnAt 20 rfl | exact rdAt 21 rfl | exact rdOwnAt 21 rfl | exact rdAt 22 rfl | exact rdOwnAt 22 rfl | exact rdAt 23 rfl | exact rdOwnAt 23 rfl) k rfl (by first | omega | (simp; done) | (simp; omega) | (unfold maxLen; omega) | (unfold maxLen; simp; done) | (unfold maxLen; simp; omega)) (fun ad => ?_)
  exact retP [] ⟨_, rfl, List.getElem_mem hlt, rfl, rfl⟩ rfl rfl trivial rfl trivial (fun _ => rfl)

/-- The bytes that the reader reads. -/
def openI (i : Sl) (xs : List UInt8) : Sl := if 2000 < xs.length then i.cut 0 1 else i

set_option maxRecDepth 100000 in
theorem open_c (i : Sl) (xs : List UInt8) (w : World) (h : At w [slo i cByte 1 xs]) (hb : xs.length ≤ 4294967296) :
    Calls Try.prog 110 #[i.val xs.length] w (RetN w 183 2 fun cs L => cs = rdrV (openI i xs) (xs.take 2000) 0 ∧ L = []) := by
  refine calls1 Try.func110 rfl tabOk w _ rfl _ rfl _ h ⟨rfl, rfl, trivial⟩ _ (by decide) ?_
  refine CaseB.mk (fun h => ?_) (fun h => ?_)
  · have h1 : 2000 < xs.length := by simp at h; omega
    refine stop_cut tabOk rfl rfl rfl rfl ⟨rfl, rfl⟩ rfl rfl (by first | exact rdAt 0 rfl | exact rdOwnAt 0 rfl | exact rdAt 1 rfl | exact rdOwnAt 1 rfl | exact rdAt 2 rfl | exact rdOwnAt 2 rfl | exact rdAt 3 rfl | exact rdOwnAt 3 rfl | exact rdAt 4 rfl | exact rdOwnAt 4 rfl | exact rdAt 5 rfl | exact rdOwnAt 5 rfl | exact rdAt 6 rfl | exact rdOwnAt 6 rfl | exact rdAt 7 rfl | exact rdOwnAt 7 rfl | exact rdAt 8 rfl | exact rdOwnAt 8 rfl | exact rdAt 9 rfl | exact rdOwnAt 9 rfl | exact rdAt 10 rfl | exact rdOwnAt 10 rfl | exact rdAt 11 rfl | exact rdOwnAt 11 rfl | exact rdAt 12 rfl | exact rdOwnAt 12 rfl | exact rdAt 13 rfl | exact rdOwnAt 13 rfl | exact rdAt 14 rfl | exact rdOwnAt 14 rfl | exact rdAt 15 rfl | exact rdOwnAt 15 rfl | exact rdAt 16 rfl | exact rdOwnAt 16 rfl | exact rdAt 17 rfl | exact rdOwnAt 17 rfl | exact rdAt 18 rfl | exact rdOwnAt 18 rfl | exact rdAt 19 rfl | exact rdOwnAt 19 rfl | exact rdAt 20 rfl | exact rdOwnAt 20 rfl | exact rdAt 21 rfl | exact rdOwnAt 21 rfl | exact rdAt 22 rfl | exact rdOwnAt 22 rfl | exact rdAt 23 rfl | exact rdOwnAt 23 rfl) (0) (2000) ((xs.take 2000)).length rfl rfl (by first | omega | (simp; done) | (simp; omega) | (unfold maxLen; omega) | (unfold maxLen; simp; done) | (unfold maxLen; simp; omega)) (by first | omega | (simp; done) | (simp; omega) | (unfold maxLen; omega) | (unfold maxLen; simp; done) | (unfold maxLen; simp; omega)) (by first | omega | (simp; done) | (simp; omega) | (unfold maxLen; omega) | (unfold maxLen; simp; done) | (unfold maxLen; simp; omega)) ?_
    refine retN [] ⟨?_, rfl⟩ rfl rfl rfl trivial rfl trivial
    simp [rdrV, openI, h1]
  · have h1 : ¬ 2000 < xs.length := by simp at h; omega
    refine retN [] ⟨?_, rfl⟩ rfl rfl rfl trivial rfl trivial
    simp [rdrV, openI, h1, List.take_of_length_le (show xs.length ≤ 2000 by omega)]

/-- They can be read. -/
theorem openAt {w : World} {Q : Nat → Prop} {i : Sl} {xs : List UInt8} (h : (fSl true i 1 (cells cByte xs) xs.length).P w ∧ ∀ b, (fSl true i 1 (cells cByte xs) xs.length).foot b → Q b) :
    (fSl true (openI i xs) 1 (cells cByte (xs.take 2000)) (xs.take 2000).length).P w ∧ ∀ b, (fSl true (openI i xs) 1 (cells cByte (xs.take 2000)) (xs.take 2000).length).foot b → Q b := by
  unfold openI
  split
  · rename_i hl
    exact atCut encByte 0 2000 (by omega) (by omega) (by simp) h
  · rename_i hl
    rw [List.take_of_length_le (by omega)]
    exact h

end Go.Proofs.Ytpopeaoklccgcaa
