/- THE FRAMEWORK 'Sx', PART 22: nested arguments opened into facts. No project text. -/
import Derived.Test.YtpopeaoklccgcaaSxo
import Derived.Test.YtpopeaoklccgcaaSxt
namespace Go.Sx
open Go Go.RowKit Go.ChangeShapes Go.WideShapes

/-- What all of G read stands at W. -/
def AllR (W : World) (G : List Fct) : Prop := ∀ f ∈ G, f.aged.P W ∧ ∀ b, f.aged.foot b → b < W.heap.size
theorem AllR.nil (W : World) : AllR W [] := fun _ h => by cases h
theorem AllR.cons {W : World} {f : Fct} {G : List Fct} (h : f.aged.P W ∧ ∀ b, f.aged.foot b → b < W.heap.size) (k : AllR W G) : AllR W (f :: G) := fun g hg => by
  rcases List.mem_cons.1 hg with rfl | hg
  · exact h
  · exact k g hg
theorem AllR.append {W : World} {G H : List Fct} (h : AllR W G) (k : AllR W H) : AllR W (G ++ H) := fun g hg => by
  rcases List.mem_append.1 hg with hg | hg
  · exact h g hg
  · exact k g hg
theorem AllR.flat {W : World} {α : Type} {xs : List α} {inner : α → List Fct} (h : ∀ x ∈ xs, AllR W (inner x)) : AllR W (xs.flatMap inner) := fun g hg => by
  obtain ⟨x, hx, hg⟩ := List.mem_flatMap.1 hg
  exact h x hx g hg
theorem AllR.at {W : World} {G : List Fct} (h : AllR W G) : (fR G).P W ∧ ∀ b, (fR G).foot b → b < W.heap.size := by
  refine ⟨fun g hg => ?_, ?_⟩
  · obtain ⟨f, hf, rfl⟩ := List.mem_map.1 hg
    exact (h f hf).1
  · rintro b ⟨g, hg, hb⟩
    obtain ⟨f, hf, rfl⟩ := List.mem_map.1 hg
    exact (h f hf).2 b hb
section
variable {H : Type} {enc : TypeId × Value → H} {P : Program} {W : World}
/-- A slice opened: its elements read one by one, each with what it holds. -/
theorem open_slQ {α : Type} {el : α → List Value} {sz : Nat} {Q : α → Prop} (he : Enc el sz) (h0 : 0 < sz) {t e : TypeId} {fuel : Nat} {cs : List Value} {x : DataW H × List MemPlace} (ht : P.underlying t = some (.slice e)) (hc : P.cellsOf e = sz)
    (hel : ∀ n cs y, DataW.trod enc P W 0 (fun _ => true) true n e cs = some y → ∃ a : α, cs = el a ∧ Q a)
    (h : DataW.trod enc P W 0 (fun _ => true) true fuel t cs = some x) :
    ∃ (i : Sl) (xs : List α), cs = [i.val xs.length] ∧ RdS W i sz (cells el xs) xs.length ∧ (∀ b, (fSl true i sz (cells el xs) xs.length).foot b → b < W.heap.size) ∧ ∀ x ∈ xs, Q x := by
  rcases Deep.open_slice ht h with ⟨rfl, rfl⟩ | ⟨a, len, cap, m, n, D, Pl, rfl, hb, hl, hm, hmm, rfl, hx⟩
  · exact ⟨⟨none, 0⟩, [], rfl, ⟨by simp [cells], by simp, by simp [maxLen], fun h => by simp at h⟩, fun b hb => by have := hb.1; simp at this, by simp⟩
  · rw [hc] at hx
    have hlm : len ≤ m := by rw [hmm]; simp; omega
    have hone : ∀ i, i < len → ∃ y : α, (∀ r u, (el y)[r]? = some u → W.cell? (a.add (i * sz + r)) = some u) ∧ Q y := fun i hi => by
      obtain ⟨cs', h1, h2⟩ := hx i (by omega)
      obtain ⟨y, rfl, hq⟩ := hel _ _ _ h2
      obtain ⟨_, g1, g2⟩ := World.cells?_some h1
      refine ⟨y, fun r u hu => ?_, hq⟩
      have hr : r < sz := by rw [← g1]; exact (List.getElem?_eq_some_iff.1 hu).1
      have := g2 r hr
      rw [addr_add_add, hu] at this
      exact this
    rcases Nat.eq_zero_or_pos len with hz | hz
    · subst hz
      exact ⟨⟨some a, cap⟩, [], rfl, ⟨by simp [cells], by simp, hm, fun h => by simp at h⟩, fun b hb => by have := hb.1; simp at this, by simp⟩
    · have : Inhabited α := ⟨(hone 0 hz).choose⟩
      obtain ⟨X, hX⟩ := Deep.choose_lt hone
      have hlen : ((List.range len).map X).length = len := by simp
      refine ⟨⟨some a, cap⟩, (List.range len).map X, by rw [hlen]; rfl, ⟨by rw [cells_length he], by rw [hlen]; exact hl, hm, fun _ => ⟨a, rfl, fun j u hu => ?_⟩⟩, ?_, ?_⟩
      · obtain ⟨k, r, hk, rfl, hu'⟩ := cells_inv he h0 hu
        have hk' : k < len := by simpa using hk
        exact (hX k hk').1 r u (by simpa using hu')
      · rintro b ⟨_, ad, had, rfl⟩
        injection had with had
        subst had
        have hr : 0 < (el (X 0)).length := by rw [he.len]; exact h0
        have hc0 := (hX 0 hz).1 0 _ (List.getElem?_eq_getElem hr)
        unfold World.cell? at hc0
        rw [block_add] at hc0
        cases hh : W.heap[a.block]? with
        | none => rw [hh] at hc0; simp at hc0
        | some o => exact (Array.getElem?_eq_some_iff.1 hh).1
      · intro x hx
        obtain ⟨k, hk, rfl⟩ := List.mem_map.1 hx
        exact (hX k (by simpa using hk)).2
end
end Go.Sx
