/- THE FRAMEWORK 'Sx', PART 5: facts on slices; what a new block and a store do to a symbolic state. No project text. -/
import Derived.Test.YtpopeaoklccgcaaSxd
import Derived.Laws.CopyRow
namespace Go.Sx
open Go Go.RowKit

abbrev fSl (old : Bool) (i : Sl) (sz : Nat) (cs : List Value) (n : Nat) : Fct := .sl old i sz cs n
abbrev fOwn (old : Bool) (i : Sl) (e sz : Nat) (cs : List Value) (n : Nat) : Fct := .own old i e sz cs n

theorem own_cases {w : World} {i : Sl} {e sz n : Nat} {cs : List Value} (h : w.ownsRow 0 e sz (i.val n) n cs) :
    (i.a = none ∧ n = 0 ∧ i.c = 0 ∧ cs = []) ∨ ∃ g cur, i.a = some ⟨g, 0, none⟩ ∧ w.heap[g]? = some (.cells cur e (0, 0)) ∧ n ≤ i.c ∧ i.c ≤ maxLen ∧ cur.size = i.c * sz ∧ cur.toList.take (n * sz) = cs := by
  rcases h.2 with ⟨hv, hn⟩ | ⟨g, cap, cur, hv, hg, hh, h1, h2, h3, h4⟩
  · simp only [Sl.val] at hv
    injection hv with h1 h2 h3
    refine .inl ⟨h1, hn, h3, ?_⟩
    have := h.1
    rw [hn, Nat.zero_mul] at this
    exact List.eq_nil_of_length_eq_zero this
  · simp only [Sl.val] at hv
    injection hv with e1 e2 e3
    subst e3
    exact .inr ⟨g, cur, e1, hh, h1, h2, h3, h4⟩
theorem own_rd {w : World} {i : Sl} {e sz n : Nat} {cs : List Value} (h : w.ownsRow 0 e sz (i.val n) n cs) : RdS w i sz cs n := by
  rcases own_cases h with ⟨h1, h2, h3, h4⟩ | ⟨g, cur, h1, h2, h3, h4, h5, h6⟩
  · subst h2; subst h4
    exact ⟨by simp, by omega, by rw [h3]; simp [maxLen], fun h => by omega⟩
  · refine ⟨h.1, h3, h4, fun hn => ⟨_, h1, fun j u hu => ?_⟩⟩
    exact h.cells (g := g) (by simp [Value.ownBlock, Sl.val, h1]) j u hu

/-- What stands at the new world: an own slice's fact serves for a plain slice's. -/
theorem WD.rd {E : Env} {A : Nat → Nat} {n : Nat} {B : List (Nat × TypeId × Nat)} {M : List ((Nat × Nat) × SV)} {F : List Fct} {w : World} (h : WD E A n B M F w) (k : Nat) {old o2 : Bool} {i : Sl} {sz m : Nat} {cs : List Value} (hi : F[k]? = some (fSl old i sz cs m)) :
    (fSl o2 i sz cs m).P w ∧ ∀ b, (fSl o2 i sz cs m).foot b → b < w.heap.size :=
  ⟨(h.nth k hi).1, fun b hb => (h.nth k hi).2 b hb⟩
theorem WD.rdOwn {E : Env} {A : Nat → Nat} {n : Nat} {B : List (Nat × TypeId × Nat)} {M : List ((Nat × Nat) × SV)} {F : List Fct} {w : World} (h : WD E A n B M F w) (k : Nat) {old o2 : Bool} {i : Sl} {e sz m : Nat} {cs : List Value} (hi : F[k]? = some (fOwn old i e sz cs m)) :
    (fSl o2 i sz cs m).P w ∧ ∀ b, (fSl o2 i sz cs m).foot b → b < w.heap.size :=
  ⟨own_rd (h.nth k hi).1, fun b hb => (h.nth k hi).2 b hb.2⟩

def storeL (k : Nat) : Nat → List SV → List ((Nat × Nat) × SV) → List ((Nat × Nat) × SV)
  | _, [], M => M
  | o, x :: r, M => storeL k (o + 1) r (((k, o), x) :: M)
def storeK (k : Nat) : Nat → List SV → List ((Nat × Nat) × SV) → (List ((Nat × Nat) × SV) → Prop) → Prop
  | _, [], M, K => K M
  | o, x :: r, M, K => storeK k (o + 1) r (((k, o), x) :: M) K
theorem storeK_eq (k : Nat) : ∀ (o : Nat) (l : List SV) (M : List ((Nat × Nat) × SV)) (K : List ((Nat × Nat) × SV) → Prop), storeK k o l M K = K (storeL k o l M)
  | _, [], _, _ => rfl
  | o, x :: r, M, K => by simp only [storeK, storeL]; exact storeK_eq k (o + 1) r _ K
theorem lookM_storeL (k : Nat) : ∀ (l : List SV) (o : Nat) (M : List ((Nat × Nat) × SV)) (k' o' : Nat), lookM (storeL k o l M) k' o' = if k = k' ∧ o ≤ o' ∧ o' < o + l.length then l[o' - o]? else lookM M k' o'
  | [], o, M, k', o' => by
    simp only [storeL, List.length_nil, Nat.add_zero]
    rw [if_neg (by omega)]
  | x :: r, o, M, k', o' => by
    simp only [storeL]
    rw [lookM_storeL k r (o + 1), lookM_cons]
    simp only [List.length_cons]
    by_cases h1 : k = k'
    · subst h1
      by_cases h2 : o = o'
      · subst h2
        simp [show ¬ (o + 1 ≤ o) by omega]
      · by_cases h3 : o + 1 ≤ o' ∧ o' < o + 1 + r.length
        · simp only [true_and]
          rw [if_pos h3, if_pos (by omega), show o' - o = (o' - (o + 1)) + 1 by omega, List.getElem?_cons_succ]
        · simp only [true_and]
          rw [if_neg h3]; simp only [h2, if_false]; rw [if_neg (by omega)]
    · simp [h1]

def cellsSV : SV → Option (List SV)
  | .v u => (match valCells u with
    | some l => some (l.map .v)
    | none => none)
  | .lit b => some [.lit b]
  | .p k o => some [.p k o]
  | .f g cap => some [.f g cap]
  | .e .. => none
def lookB : List (Nat × TypeId × Nat) → Nat → Option Nat
  | [], _ => none
  | (k, _, sz) :: r, k' => match Nat.beq k k' with
    | true => some sz
    | false => lookB r k'
theorem lookB_mem : ∀ {B : List (Nat × TypeId × Nat)} {k sz : Nat}, lookB B k = some sz → ∃ t, (k, t, sz) ∈ B
  | [], k, sz, h => by simp [lookB] at h
  | (k', t, s) :: r, k, sz, h => by
    simp only [lookB] at h
    split at h
    · rename_i hk
      simp at h; subst h
      exact ⟨t, by rw [Nat.eq_of_beq_eq_true hk]; simp⟩
    · obtain ⟨t', ht⟩ := lookB_mem h
      exact ⟨t', by simp [ht]⟩

section
variable {E : Env} {A : Nat → Nat} {T : List (Nat × SV)} {n c : Nat} {B : List (Nat × TypeId × Nat)} {M : List ((Nat × Nat) × SV)} {F : List Fct} {a : Act} {w w' : World}

theorem cellsSV_spec {s : SV} {l : List SV} (h : cellsSV s = some l) (hs : s.okT n c w) : (s.den A).cells.toList = l.map (SV.den A) ∧ (∀ x ∈ l, x.small n) ∧ ∀ x ∈ l, (x.den A).oneCell' = true := by
  cases s with
  | v u =>
    simp only [cellsSV] at h
    split at h
    · rename_i l' hl
      simp at h; subst h
      obtain ⟨h1, h2⟩ := valCells_cells hl
      refine ⟨?_, ?_, ?_⟩
      · show u.cells.toList = _
        rw [h1, List.map_map]
        exact (List.map_id' l').symm
      · intro x hx
        obtain ⟨y, _, rfl⟩ := List.mem_map.1 hx
        trivial
      · intro x hx
        obtain ⟨y, hy, rfl⟩ := List.mem_map.1 hx
        exact h2 y hy
    · cases h
  | lit b => simp [cellsSV] at h; subst h; exact ⟨rfl, by simp [SV.small], by simp [SV.den]; rfl⟩
  | p k o => simp [cellsSV] at h; subst h; exact ⟨rfl, by simp; exact hs, by simp [SV.den, ptr]; rfl⟩
  | f g cap => simp [cellsSV] at h; subst h; exact ⟨rfl, by simp; exact hs, by simp [SV.den]; rfl⟩
  | e _ _ _ _ => simp [cellsSV] at h

/-- A new local block. -/
theorem WD.alloc (h : WD E A n B M F w) {l : List SV} (hl : ∀ x ∈ l, x.small n) (t : TypeId) :
    WD E (fun k => if k = n then w.heap.size else A k) (n + 1) ((n, t, l.length) :: B) (storeL n 0 l M) F (w.alloc (.cells (l.map (SV.den A)).toArray t)) := by
  have hold : ∀ k ty sz, (k, ty, sz) ∈ B → k ≠ n := fun k ty sz hk => by have := (h.key k ty sz hk).1; omega
  have hex := Ext.alloc w (.cells (l.map (SV.den A)).toArray t)
  refine ⟨?_, ?_, ?_, ?_, Nat.le_succ_of_le h.n0, h.ext.trans hex.any, ?_, h.dj⟩
  · intro k ty sz hk
    rcases List.mem_cons.1 hk with hk | hk
    · simp only [Prod.mk.injEq] at hk
      obtain ⟨rfl, rfl, rfl⟩ := hk
      simp only [if_true]
      exact ⟨Nat.lt_succ_self _, by simp, .inl h.ext.size, _, heap_alloc_new w _, by simp⟩
    · obtain ⟨h1, h2, h3, cs, h4, h5⟩ := h.key k ty sz hk
      simp only [if_neg (hold k ty sz hk)]
      exact ⟨by omega, by simp; omega, h3, cs, by rw [Below.heap_alloc _ _ _ h2]; exact h4, h5⟩
  · intro k ty sz k' ty' sz' hk hk' he
    rcases List.mem_cons.1 hk with hk | hk <;> rcases List.mem_cons.1 hk' with hk' | hk'
    · simp only [Prod.mk.injEq] at hk hk'; omega
    · simp only [Prod.mk.injEq] at hk
      simp only [hk.1, if_true, if_neg (hold _ _ _ hk')] at he
      have := (h.key _ _ _ hk').2.1
      omega
    · simp only [Prod.mk.injEq] at hk'
      simp only [hk'.1, if_true, if_neg (hold _ _ _ hk)] at he
      have := (h.key _ _ _ hk).2.1
      omega
    · simp only [if_neg (hold _ _ _ hk), if_neg (hold _ _ _ hk')] at he
      exact h.inj _ _ _ _ _ _ hk hk' he
  · intro k o v hv
    rw [lookM_storeL] at hv
    split at hv
    · rename_i hc
      obtain ⟨rfl, _, hc3⟩ := hc
      simp only [Nat.sub_zero] at hv
      have hm : v ∈ l := List.mem_of_getElem? hv
      refine ⟨⟨t, l.length, by simp⟩, ?_, SV.small_more (hl v hm) (Nat.le_succ _)⟩
      simp only [if_true]
      rw [cell_of_row _ _ _ _ _ _ (heap_alloc_new w _), SV.den_upd (SV.small_okT (c := 0) (w := w) (hl v hm)) _ _ (Nat.le_refl _)]
      simp [hv]
    · obtain ⟨⟨ty, sz, hk⟩, h2, h3⟩ := h.mem k o v hv
      refine ⟨⟨ty, sz, by simp [hk]⟩, ?_, SV.small_more h3 (Nat.le_succ _)⟩
      simp only [if_neg (hold _ _ _ hk)]
      rw [SV.den_upd (SV.small_okT (c := 0) (w := w) h3) _ _ (Nat.le_refl _), ← h2]
      exact World.cell?_of_block (Below.heap_alloc _ _ _ (h.key _ _ _ hk).2.1)
  · intro k hk
    have hk' := h.n0
    simp only [if_neg (show k ≠ n by omega)]
    exact h.a0 k hk
  · intro f hf
    obtain ⟨h1, h2, h3⟩ := h.fct f hf
    refine ⟨Fct.keep h1 (fun b hb => (h2 b hb).1) hex (fun _ _ h => h), fun b hb => ⟨by simp; exact Nat.lt_succ_of_lt (h2 b hb).1, fun k ty sz hk => ?_⟩, h3⟩
    rcases List.mem_cons.1 hk with hk | hk
    · simp only [Prod.mk.injEq] at hk
      simp only [hk.1, if_true]
      have := (h2 b hb).1
      omega
    · simp only [if_neg (hold _ _ _ hk)]
      exact (h2 b hb).2 k ty sz hk

/-- A store into a local block. -/
theorem WD.store (h : WD E A n B M F w) {k o sz : Nat} {ty : TypeId} (hk : (k, ty, sz) ∈ B) {l : List SV} (hl : ∀ x ∈ l, x.small n) (h1 : ∀ x ∈ l, (x.den A).oneCell' = true) (hle : o + l.length ≤ sz) (P : Program) :
    ∃ w', (storeCells ⟨A k, o, none⟩ (l.map (SV.den A))).run P w = .ok () w' ∧ WD E A n B (storeL k o l M) F w' := by
  obtain ⟨hk1, hk2, hk3, cs, hk4, hk5⟩ := h.key k ty sz hk
  have hrun := run_storeCells_at (P := P) (A k) o ty (l.map (SV.den A)) 0 cs w hk4 (by simp; omega) (fun v hv => by
    obtain ⟨x, hx, rfl⟩ := List.mem_map.1 hv
    exact h1 x hx)
  refine ⟨_, hrun, ?_⟩
  simp only [Nat.add_zero]
  generalize hcs' : (List.take o cs.toList ++ List.map (SV.den A) l ++ List.drop (o + (List.map (SV.den A) l).length) cs.toList).toArray = cs'
  have hsz : cs'.size = sz := by rw [← hcs']; simp; omega
  have hnew : (w.setRow (A k) cs').heap[A k]? = some (.cells cs' ty (0, 0)) := setRow_heap w (A k) cs cs' ty (0, 0) hk4
  have hother : ∀ b, b ≠ A k → (w.setRow (A k) cs').heap[b]? = w.heap[b]? := fun b hb => by
    simp only [World.setRow, Array.getElem?_modify]
    rw [if_neg (fun e => hb e.symm)]
  have hhsz : (w.setRow (A k) cs').heap.size = w.heap.size := by simp [World.setRow]
  have hex : ExtX (fun b => b = A k) w (w.setRow (A k) cs') := ⟨rfl, rfl, rfl, by rw [hhsz]; exact Nat.le_refl _, fun b _ hb => hother b hb⟩
  refine ⟨?_, h.inj, ?_, h.a0, h.n0, h.ext.trans' hex (fun i hi e => ?_), ?_, h.dj⟩
  · intro k' ty' sz' hk'
    obtain ⟨g1, g2, g3, cs2, g4, g5⟩ := h.key k' ty' sz' hk'
    refine ⟨g1, by rw [hhsz]; exact g2, g3, ?_⟩
    by_cases e : A k' = A k
    · rw [e, hk4] at g4
      simp only [Option.some.injEq, Obj.cells.injEq] at g4
      obtain ⟨rfl, rfl, _⟩ := g4
      exact ⟨cs', by rw [e]; exact hnew, by omega⟩
    · exact ⟨cs2, by rw [hother _ e]; exact g4, g5⟩
  · intro k' o' v hv
    rw [lookM_storeL] at hv
    split at hv
    · rename_i hc
      obtain ⟨rfl, hc2, hc3⟩ := hc
      have hm : v ∈ l := List.mem_of_getElem? hv
      refine ⟨⟨ty, sz, hk⟩, ?_, hl v hm⟩
      rw [cell_of_row _ _ _ _ _ _ hnew, ← hcs']
      simp only [List.getElem?_toArray]
      rw [List.append_assoc, List.getElem?_append_right (by simp; omega), List.getElem?_append_left (by simp; omega)]
      have : o' - (List.take o cs.toList).length = o' - o := by simp; omega
      rw [this, List.getElem?_map, hv]; rfl
    · rename_i hc
      obtain ⟨⟨ty', sz', hk'⟩, g2, g3⟩ := h.mem k' o' v hv
      refine ⟨⟨ty', sz', hk'⟩, ?_, g3⟩
      by_cases e : A k' = A k
      · have ek : k' = k := h.inj _ _ _ _ _ _ hk' hk e
        subst ek
        rw [cell_of_row _ _ _ _ _ _ hk4] at g2
        rw [cell_of_row _ _ _ _ _ _ hnew, ← hcs', ← g2]
        simp only [List.getElem?_toArray]
        have hlen : o ≤ cs.size := by omega
        by_cases h3 : o' < o
        · rw [List.append_assoc, List.getElem?_append_left (by simp; omega), List.getElem?_take]
          simp [h3]
        · have h4 : o + l.length ≤ o' := by
            rcases Nat.lt_or_ge o' (o + l.length) with h5 | h5
            · exact absurd ⟨rfl, by omega, h5⟩ hc
            · exact h5
          rw [List.getElem?_append_right (by simp; omega), List.getElem?_drop]
          simp only [List.length_append, List.length_take, List.length_map, Array.length_toList, Array.getElem?_toList]
          congr 1
          omega
      · rw [← g2]
        exact World.cell?_of_block (hother _ e)
  · subst e
    rcases hk3 with hk3 | hk3
    · omega
    · exact hk3
  · intro f hf
    obtain ⟨g1, g2, g3⟩ := h.fct f hf
    exact ⟨Fct.keep g1 (fun b hb => (g2 b hb).1) hex (fun b hb e => (g2 b hb).2 k ty sz hk e.symm), fun b hb => ⟨by rw [hhsz]; exact (g2 b hb).1, (g2 b hb).2⟩, g3⟩
end
end Go.Sx
