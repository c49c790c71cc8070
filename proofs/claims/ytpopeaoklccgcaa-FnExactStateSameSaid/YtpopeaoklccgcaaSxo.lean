/- THE FRAMEWORK 'Sx', PART 15: arguments opened into facts; from a contract to a law's row. No project text. -/
import Derived.Test.YtpopeaoklccgcaaSxn
import Derived.ProofKit
import Derived.Deep.Slices
import Derived.Laws.StructEq
namespace Go.Sx
open Go Go.RowKit Go.ChangeShapes Go.WideShapes

theorem trodAll_below {H : Type} {enc : TypeId × Value → H} {P : Program} (hl : laidOutB P = true) {W W' : World} (hb : Below W.heap.size W W') (sp : Nat → Bool) : ∀ {ts : List TypeId} {vs : List Value} {ds : List (DataW H)} {ps : List MemPlace}, (∀ t ∈ ts, P.readableRec t = true ∧ t < P.types.size) →
    DataW.TrodAll enc P W 0 (fun _ => true) true ts vs ds ps → (∀ x ∈ ps, x.block < W.heap.size) → (∀ x ∈ ps, sp x.block = true) → DataW.TrodAll enc P W' 0 sp true ts vs ds ps
  | [], [], [], ps, _, h, _, _ => h
  | t :: ts, v :: vs, d :: ds, ps, hr, h, hlt, hsp => by
    obtain ⟨p, q, h1, h2, rfl⟩ := h
    have ht := hr t (by simp)
    exact ⟨p, q, WideElems.Trod_stays hl ht.1 ht.2 h1 (fun x hx => hb.same (hlt x (by simp [hx]))) (fun x hx => hsp x (by simp [hx])),
      trodAll_below hl hb sp (fun t ht => hr t (by simp [ht])) h2 (fun x hx => hlt x (by simp [hx])) (fun x hx => hsp x (by simp [hx])), rfl⟩
  | [], _ :: _, _, _, _, h, _, _ => h.elim
  | _ :: _, [], _, _, _, h, _, _ => h.elim
  | [], [], _ :: _, _, _, h, _, _ => h.elim
  | _ :: _, _ :: _, [], _, _, h, _, _ => h.elim

/-- A law that answers true and leaves old memory alone: what its row asks behind the call. -/
theorem law_post {H : Type} {enc : TypeId × Value → H} {P : Program} {f : Func} {s : ChangeSpec} {apart fresh handsOn again : Bool} {W W' : World} {args : Array Value} {ds gs : List (DataW H)} {before : List MemPlace} {tb : TypeId} {pl : List TypeId}
    (hl : laidOutB P = true) (hpl : f.params.toList = pl) (hp : pl.all (fun t => P.readableRec t && decide (t < P.types.size)) = true) (hvars : s.vars = []) (hres : f.resultTypes = #[tb]) (htb : P.underlying tb = some .bool)
    (hspec : s.fn H (ds ++ gs) = { results := [.lit (.bool true)], args := ds })
    (hW : DataW.Whole enc P f.params.toList s.vars apart W args.toList ds gs before) (hb : Below W.heap.size W W') :
    s.post enc P f apart fresh handsOn again W args (.bool true) W' := by
  have hold : ∀ p ∈ before, p.block < W.heap.size := fun p hp => by simpa using hW.lt p hp
  have hW0 := hW
  obtain ⟨pa, pv, hA, hV, hbef, hfz, hnd⟩ := hW
  have hbef' := hbef.symm; clear hbef
  rw [hvars] at hV
  obtain ⟨rfl, rfl⟩ := trodVars_none hV
  rw [List.append_nil] at hbef'
  subst hbef'
  rw [List.append_nil] at hspec
  have hp' : ∀ t ∈ f.params.toList, P.readableRec t = true ∧ t < P.types.size := fun t ht => by
    rw [hpl] at ht
    have := List.all_eq_true.1 hp t ht
    simpa using this
  have hB : ∀ (b : Nat) (sp : Nat → Bool) (hd : Bool), DataW.Trod enc P W' b sp hd tb (.bool true) (.lit (.bool true)) [] := fun b sp hd => ⟨1, by simp [DataW.trod, Value.cells, htb]⟩
  have hrl : (Value.bool true).resultList f.resultTypes.size = [.bool true] := by rw [hres]; rfl
  have hR : ∀ (b : Nat) (sp : Nat → Bool) (hd : Bool), DataW.TrodAll enc P W' b sp hd f.resultTypes.toList ((Value.bool true).resultList f.resultTypes.size) [.lit (.bool true)] [] := fun b sp hd => by
    rw [hrl, hres]; exact trodAll_mk1 (hB b sp hd)
  have hAr := fun sp h => trodAll_below hl hb sp hp' hA hold h
  have hvv : ∀ sp, DataW.TrodVars enc P W' sp s.vars ([] : List (DataW H)) [] := fun sp => by rw [hvars]; rfl
  refine ⟨ds, [], pa, [], pa, [], hW0, ?_, ?_, ?_, ?_, fun _ => ⟨?_, [.lit (.bool true)] ++ ds, [], [] ++ pa, ⟨[] ++ pa, [], trodAll_append (hAr _ (fun _ _ => rfl)) (hR _ _ _), hvv _, by simp, ?_, ?_⟩, fun p hp _ => by simpa using hp⟩⟩
  · simp only [List.append_nil, hspec]; exact hR _ _ _
  · simp only [List.append_nil, hspec]; exact hAr _ (fun p hp => by simpa using hold p hp)
  · simp only [List.append_nil, hspec]; exact hvv _
  · exact World.keptBut_mono (fun p hp => hp.elim) (hb.frame (fun _ => False))
  · intro j t r hj hv
    rw [hrl] at hv
    rw [hres] at hj
    cases j with
    | succ j => simp at hv
    | zero =>
      simp at hj hv
      subst hj; subst hv
      simp [Value.okWide, htb, Cell.okWide, Cell.ok]
  · intro b off hp
    rw [hb.frozen (hold _ (by simpa using hp))]
    exact hfz b off (by simpa using hp)
  · intro h
    simpa using hnd h

section
variable {H : Type} {enc : TypeId × Value → H} {P : Program} {W : World}
theorem cells_inv {α : Type} {el : α → List Value} {sz : Nat} (he : Enc el sz) (h0 : 0 < sz) {xs : List α} {j : Nat} {u : Value} (h : (cells el xs)[j]? = some u) : ∃ (k r : Nat) (hk : k < xs.length), j = k * sz + r ∧ (el xs[k])[r]? = some u := by
  have hlt : j < xs.length * sz := by rw [← cells_length he]; exact (List.getElem?_eq_some_iff.1 h).1
  have hk : j / sz < xs.length := Nat.div_lt_of_lt_mul (by rwa [Nat.mul_comm] at hlt)
  have hr : j % sz < sz := Nat.mod_lt _ h0
  have hj : j = j / sz * sz + j % sz := (Nat.div_add_mod' j sz).symm
  refine ⟨j / sz, j % sz, hk, hj, ?_⟩
  have hr' : j % sz < (el xs[j / sz]).length := by rw [he.len]; exact hr
  have := cells_at he hk (List.getElem?_eq_getElem hr')
  rw [← hj, h] at this
  rw [List.getElem?_eq_getElem hr', ← this]
/-- A slice opened: its elements read one by one. -/
theorem open_sl {α : Type} {el : α → List Value} {sz : Nat} (he : Enc el sz) (h0 : 0 < sz) {t e : TypeId} {fuel : Nat} {cs : List Value} {x : DataW H × List MemPlace} (ht : P.underlying t = some (.slice e)) (hc : P.cellsOf e = sz)
    (hel : ∀ n cs y, DataW.trod enc P W 0 (fun _ => true) true n e cs = some y → ∃ a : α, cs = el a)
    (h : DataW.trod enc P W 0 (fun _ => true) true fuel t cs = some x) :
    ∃ (i : Sl) (xs : List α), cs = [i.val xs.length] ∧ RdS W i sz (cells el xs) xs.length ∧ ∀ b, (fSl true i sz (cells el xs) xs.length).foot b → b < W.heap.size := by
  rcases Deep.open_slice ht h with ⟨rfl, rfl⟩ | ⟨a, len, cap, m, n, D, Pl, rfl, hb, hl, hm, hmm, rfl, hx⟩
  · exact ⟨⟨none, 0⟩, [], rfl, ⟨by simp [cells], by simp, by simp [maxLen], fun h => by simp at h⟩, fun b hb => by have := hb.1; simp at this⟩
  · rw [hc] at hx
    have hlm : len ≤ m := by rw [hmm]; simp; omega
    have hone : ∀ i, i < len → ∃ y : α, ∀ r u, (el y)[r]? = some u → W.cell? (a.add (i * sz + r)) = some u := fun i hi => by
      obtain ⟨cs', h1, h2⟩ := hx i (by omega)
      obtain ⟨y, rfl⟩ := hel _ _ _ h2
      obtain ⟨_, g1, g2⟩ := World.cells?_some h1
      refine ⟨y, fun r u hu => ?_⟩
      have hr : r < sz := by rw [← g1]; exact (List.getElem?_eq_some_iff.1 hu).1
      have := g2 r hr
      rw [addr_add_add, hu] at this
      exact this
    rcases Nat.eq_zero_or_pos len with hz | hz
    · subst hz
      exact ⟨⟨some a, cap⟩, [], rfl, ⟨by simp [cells], by simp, hm, fun h => by simp at h⟩, fun b hb => by have := hb.1; simp at this⟩
    · have : Inhabited α := ⟨(hone 0 hz).choose⟩
      obtain ⟨X, hX⟩ := Deep.choose_lt hone
      have hlen : ((List.range len).map X).length = len := by simp
      refine ⟨⟨some a, cap⟩, (List.range len).map X, by rw [hlen]; rfl, ⟨by rw [cells_length he], by rw [hlen]; exact hl, hm, fun _ => ⟨a, rfl, fun j u hu => ?_⟩⟩, ?_⟩
      · obtain ⟨k, r, hk, rfl, hu'⟩ := cells_inv he h0 hu
        have hk' : k < len := by simpa using hk
        exact hX k hk' r u (by simpa using hu')
      · rintro b ⟨_, ad, had, rfl⟩
        injection had with had
        subst had
        have hr : 0 < (el (X 0)).length := by rw [he.len]; exact h0
        have hc0 := hX 0 hz 0 _ (List.getElem?_eq_getElem hr)
        unfold World.cell? at hc0
        rw [block_add] at hc0
        cases hh : W.heap[a.block]? with
        | none => rw [hh] at hc0; simp at hc0
        | some o => exact (Array.getElem?_eq_some_iff.1 hh).1
/-- A struct opened: each field. -/
theorem trod_fields {t : TypeId} {sp : Nat → Bool} {hd : Bool} {b fuel sz : Nat} {cs : List Value} {x : DataW H × List MemPlace} {l : List (TypeId × Nat × Nat)} (hS : P.underlying t = some (.struct (P.fieldsOf t)))
    (hF : (P.fieldsOf t).toList.map (fun f => (f.type, f.offset, P.cellsOf f.type)) = l) (hsz : P.cellsOf t = sz) (h : DataW.trod enc P W b sp hd fuel t cs = some x) :
    cs.length = sz ∧ ∃ n, ∀ (j : Nat) (ty : TypeId) (off c : Nat), l[j]? = some (ty, off, c) → ∃ y, DataW.trod enc P W b sp hd n ty ((cs.drop off).take c) = some y := by
  obtain ⟨xs, n, _, _, hl, hn, hf⟩ := DataW.trod_struct hS h
  refine ⟨hl.trans hsz, n, fun j ty off c hj => ?_⟩
  rw [← hF, List.getElem?_map] at hj
  cases hfj : (P.fieldsOf t).toList[j]? with
  | none => rw [hfj] at hj; simp at hj
  | some f =>
    rw [hfj] at hj
    simp only [Option.map_some, Option.some.injEq, Prod.mk.injEq] at hj
    obtain ⟨rfl, rfl, rfl⟩ := hj
    have hfj' : (P.fieldsOf t)[j]? = some f := by simpa using hfj
    have := hf j f hfj'
    have hlt : j < xs.length := by rw [hn]; exact (Array.getElem?_eq_some_iff.1 hfj').1
    rw [List.getElem?_eq_getElem hlt] at this
    exact ⟨_, this⟩
theorem val_slice {base : Nat} {t e : TypeId} {r : Reach} {v : Value} {i : Sl} {n : Nat} (ht : P.underlying t = some (.slice e)) (hv : Value.okWide P W r base t v) (h : v.cells.toList = [i.val n]) : v = i.val n := by
  obtain ⟨a, len, cap, rfl⟩ := okWide_slice ht hv
  simpa [Value.cells] using h
end
end Go.Sx
