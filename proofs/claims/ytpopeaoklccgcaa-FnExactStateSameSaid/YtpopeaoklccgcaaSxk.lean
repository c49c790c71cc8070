/- THE FRAMEWORK 'Sx', PART 11: maps with int keys. No project text. -/
import Derived.Test.YtpopeaoklccgcaaSxj
namespace Go.Sx
open Go Go.RowKit

/-- The entries of a map, as pairs. -/
def prs (es : Array MapEntry) : List (Value × Value) := es.toList.map fun e => (e.key, e.val)
def kv {β : Type} (venc : β → Value) (ps : List (Int × β)) : List (Value × Value) := ps.map fun p => (.int .i64 p.1, venc p.2)
/-- Block r is a map that holds just these pairs; it is the call's own. -/
def mapIs {β : Type} (r : Nat) (venc : β → Value) (ps : List (Int × β)) (w : World) : Prop := ∃ es clock, w.heap[r]? = some (.map es clock) ∧ prs es = kv venc ps
theorem mapIs_st {β : Type} (r : Nat) (venc : β → Value) (ps : List (Int × β)) (w w' : World) (hb : ∀ b, b = r → w'.heap[b]? = w.heap[b]?) : mapIs r venc ps w → mapIs r venc ps w' :=
  fun ⟨es, clock, h1, h2⟩ => ⟨es, clock, by rw [hb r rfl]; exact h1, h2⟩
abbrev fMap {β : Type} (r : Nat) (venc : β → Value) (ps : List (Int × β)) : Fct := .other false true (fun b => b = r) (mapIs r venc ps) (mapIs_st r venc ps)

/-- The first pair with this key, and its place. -/
def aidx {β : Type} : List (Int × β) → Int → Option (Nat × β)
  | [], _ => none
  | (k, v) :: r, x => if k = x then some (0, v) else (aidx r x).map fun p => (p.1 + 1, p.2)
/-- The first pair with this key. -/
def aget {β : Type} : List (Int × β) → Int → Option β
  | [], _ => none
  | (k, v) :: r, x => if k = x then some v else aget r x
/-- The pair with this key has another value, or comes last. -/
def aset {β : Type} : List (Int × β) → Int → β → List (Int × β)
  | [], x, v => [(x, v)]
  | (k, u) :: r, x, v => if k = x then (k, v) :: r else (k, u) :: aset r x v
theorem aget_idx {β : Type} (ps : List (Int × β)) (x : Int) : aget ps x = (aidx ps x).map (·.2) := by
  induction ps with
  | nil => rfl
  | cons p r ih =>
    obtain ⟨k, v⟩ := p
    simp only [aget, aidx]
    split
    · rfl
    · rw [ih]; cases aidx r x <;> rfl
theorem aset_some {β : Type} : ∀ {ps : List (Int × β)} {x : Int} {j : Nat} {u : β} (v : β), aidx ps x = some (j, u) → aset ps x v = ps.set j (x, v) ∧ ps[j]? = some (x, u)
  | [], x, j, u, v, h => by simp [aidx] at h
  | (k, q) :: r, x, j, u, v, h => by
    simp only [aidx] at h
    split at h
    · rename_i hk
      simp at h
      obtain ⟨rfl, rfl⟩ := h
      subst hk
      simp [aset]
    · rename_i hk
      cases hi : aidx r x with
      | none => rw [hi] at h; simp at h
      | some p =>
        rw [hi] at h
        simp at h
        obtain ⟨rfl, rfl⟩ := h
        obtain ⟨h1, h2⟩ := aset_some v hi
        simp [aset, hk, h1, h2]
theorem aset_none {β : Type} : ∀ {ps : List (Int × β)} {x : Int} (v : β), aidx ps x = none → aset ps x v = ps ++ [(x, v)]
  | [], x, v, h => rfl
  | (k, q) :: r, x, v, h => by
    simp only [aidx] at h
    split at h
    · cases h
    · rename_i hk
      cases hi : aidx r x with
      | none => simp [aset, hk, aset_none v hi]
      | some p => rw [hi] at h; simp at h

theorem findNow_int {β : Type} (venc : β → Value) (q : IntKind) (x : Int) : ∀ (es : List MapEntry) (ps : List (Int × β)) (i : Nat), es.map (fun e => (e.key, e.val)) = kv venc ps →
    Instr.findNow (.int q) (.int .i64 x) es i = some ((aidx ps x).map fun p => (i + p.1, venc p.2))
  | [], ps, i, h => by
    cases ps with
    | nil => rfl
    | cons p r => simp [kv] at h
  | e :: es, ps, i, h => by
    cases ps with
    | nil => simp [kv] at h
    | cons p r =>
      obtain ⟨k, v⟩ := p
      simp only [kv, List.map_cons, List.cons.injEq, Prod.mk.injEq] at h
      obtain ⟨⟨h1, h2⟩, h3⟩ := h
      have ih := findNow_int venc q x es r (i + 1) h3
      simp only [Instr.findNow, h1, Instr.sameNow, if_true, aidx]
      by_cases hk : x = k
      · subst hk
        simp [h2]
      · have hk' : ¬ k = x := fun e => hk e.symm
        have hb : (x == k) = false := by simpa using hk
        simp only [hb, ih, hk', if_false]
        cases aidx r x with
        | none => rfl
        | some p => simp [Nat.add_assoc, Nat.add_comm 1 p.1]

theorem run_getObj_map' {P : Program} {w : World} {r : Nat} {es : Array MapEntry} {clock : Nat} (h : w.heap[r]? = some (.map es clock)) : (getObj r).run P w = .ok (.map es clock) w := by
  simp [getObj, Sem.run, h]
theorem run_setObj_map' {P : Program} {w : World} {r : Nat} {es : Array MapEntry} {clock : Nat} (h : w.heap[r]? = some (.map es clock)) (o : Obj) : (setObj r o).run P w = .ok () { w with heap := w.heap.setIfInBounds r o } := by
  simp [setObj, Sem.run, h]
theorem run_checkKey_int {P : Program} {t : TypeId} {q : IntKind} (h : P.underlying t = some (.int q)) (b : Bool) (x : Int) (w : World) : (Instr.checkKey b 10000 t (.int .i64 x)).run P w = .ok () w := by
  show (Instr.checkKey b (9999 + 1) t (.int .i64 x)).run P w = _
  unfold Instr.checkKey
  simp [underlying, h]
theorem run_findKey_int {β : Type} {P : Program} {t : TypeId} {q : IntKind} (h : P.underlying t = some (.int q)) (venc : β → Value) (x : Int) (es : Array MapEntry) (ps : List (Int × β)) (he : prs es = kv venc ps) (w : World) :
    (Instr.findKey t (.int .i64 x) es.toList).run P w = .ok ((aidx ps x).map fun p => (p.1, venc p.2)) w := by
  have := findNow_int venc q x es.toList ps 0 he
  simp only [Nat.zero_add] at this
  simp [Instr.findKey, underlying, h, this]

section
variable {E : Env} {ti : Nat → TI} {A : Nat → Nat} {T : List (Nat × SV)} {n c : Nat} {B : List (Nat × TypeId × Nat)} {M : List ((Nat × Nat) × SV)} {F : List Fct} {o : Oper} {next : St → Prop}

/-- make(map..) -/
theorem stop_makeMap {β : Type} (venc : β → Value) {t : TypeId} {d : Nat} (hop : o.op = .makeMap t none) (hd : Dst E o d)
    (hnext : ∀ r : Nat, next (.mk ((d, .v (.map (some r))) :: T) n (c + 1) B M (fMap r venc ([] : List (Int × β)) :: F))) : OpW (opStop E o next T n c B M F) := by
  refine ⟨fun A a w hW hT => ?_⟩
  have hr : (execOp a.eval o).run E.P w = .ok (.value (.map (some w.heap.size))) (w.alloc (.map #[] 0)) := by
    simp [execOp, hop, Instr.makeMap]
  refine upon_of_value hr ?_
  rw [hd.1]
  refine ⟨_, ⟨_, hW.learn (Ext.alloc w _) (L := [fMap w.heap.size venc ([] : List (Int × β))]) ⟨fun f hf => ?_, List.pairwise_singleton _ _⟩, (hT.step _).put (v := .v (.map (some w.heap.size))) hd.lt trivial⟩, hnext _⟩
  simp only [List.mem_singleton] at hf
  subst hf
  refine ⟨⟨#[], 0, heap_alloc_new w _, rfl⟩, rfl, ?_⟩
  rintro b rfl
  simp

/-- m[k] -/
theorem stop_lookup {β : Type} {venc : β → Value} (k1 : Nat) {t kt et : TypeId} {x y : Operand} {r : Nat} {q : Int} {ps : List (Int × β)} {d : Nat} {z : Value} {qk : IntKind}
    (hop : o.op = .lookup t x y false) (hx : evalO T x = some (.v (.map (some r)))) (hy : evalO T y = some (.v (.int .i64 q))) (hF : F[k1]? = some (fMap r venc ps)) (hd : Dst E o d)
    (ht : E.P.underlying t = some (.map kt et)) (hkt : E.P.underlying kt = some (.int qk)) (hz : (E.P.info? et).bind (·.zero) = some z) (rv : Value) (hrv : (match aget ps q with | some v => venc v | none => z) = rv)
    (hnext : next (.mk ((d, .v rv) :: T) n c B M F)) : OpW (opStop E o next T n c B M F) := by
  subst hrv
  refine ⟨fun A a w hW hT => ?_⟩
  obtain ⟨es, clock, h1, h2⟩ := (hW.nth k1 hF).1
  have hr : (execOp a.eval o).run E.P w = .ok (.value (match aget ps q with | some v => venc v | none => z)) w := by
    have hx' := (evalO_sound hT hx).1
    have hy' := (evalO_sound hT hy).1
    simp only [SV.den] at hx' hy'
    rw [aget_idx]
    simp only [execOp, hop, hx', hy', Instr.lookup, Sem.run_bind, underlying, run_program, Result.andThen_ok, ht, Sem.run_pure, run_getObj_map' h1, run_checkKey_int hkt, run_findKey_int hkt venc q es ps h2]
    cases aidx ps q with
    | none =>
      cases hi : E.P.info? et with
      | none => rw [hi] at hz; simp at hz
      | some i =>
        rw [hi] at hz
        simp at hz
        simp [zeroValue, typeInfo, hi, hz]
    | some p => simp
  refine upon_of_value hr ?_
  rw [hd.1]
  exact ⟨_, ⟨_, hW, hT.put (v := .v (match aget ps q with | some v => venc v | none => z)) hd.lt trivial⟩, hnext⟩

/-- An own fact that is no slice's is replaced: the block has been written. -/
theorem WD.turnMap {w : World} (h : WD E A n B M F w) {β : Type} {venc : β → Value} {k r : Nat} {ps qs : List (Int × β)} (hk : F[k]? = some (fMap r venc ps)) (o : Obj)
    (hnew : mapIs r venc qs { w with heap := w.heap.setIfInBounds r o }) : WD E A n B M (fMap r venc qs :: F.eraseIdx k) { w with heap := w.heap.setIfInBounds r o } := by
  have hfk := h.fct _ (List.mem_of_getElem? hk)
  have hsub := h.sub (eraseIdx_sub F k)
  have hdj := pairwise_nth_erase h.dj hk
  have hX : ExtX (fun b => b = r) w { w with heap := w.heap.setIfInBounds r o } := by
    refine ⟨rfl, rfl, rfl, by simp, fun b _ hb => ?_⟩
    have hb' : ¬ r = b := fun e => hb e.symm
    show (w.heap.setIfInBounds r o)[b]? = w.heap[b]?
    rw [Array.getElem?_setIfInBounds, if_neg hb']
  have hW' : WD E A n B M (F.eraseIdx k) { w with heap := w.heap.setIfInBounds r o } := by
    refine hsub.grow hX (fun k' ty sz' hk' e => (hfk.2.1 r rfl).2 k' ty sz' hk' e) (fun f hf b hb e => hdj f hf (.inl rfl) r rfl (e ▸ hb)) (fun b hb e => ?_)
    exact (hfk.2.2 rfl b e).resolve_left (by omega)
  refine ⟨hW'.key, hW'.inj, hW'.mem, hW'.a0, hW'.n0, hW'.ext, ?_, ?_⟩
  · intro f hf
    rcases List.mem_cons.1 hf with rfl | hf
    · exact ⟨hnew, fun b hb => ⟨by simpa using (hfk.2.1 b hb).1, (hfk.2.1 b hb).2⟩, hfk.2.2⟩
    · exact hW'.fct f hf
  · rw [List.pairwise_cons]
    exact ⟨fun g hg ho b hb hb' => hdj g hg (.inl rfl) b hb hb', hW'.dj⟩

/-- m[k] = v -/
theorem stop_mapset {β : Type} {venc : β → Value} (k1 : Nat) (v : β) {t kt et : TypeId} {x y z : Operand} {r : Nat} {q : Int} {ps : List (Int × β)} {qk : IntKind} {s : SV}
    (hop : o.op = .mapUpdate t x y z) (hx : evalO T x = some (.v (.map (some r)))) (hy : evalO T y = some (.v (.int .i64 q))) (hz : evalO T z = some s) (hs : ∀ A, s.den A = venc v) (hF : F[k1]? = some (fMap r venc ps)) (hd : o.dst = none)
    (ht : E.P.underlying t = some (.map kt et)) (hkt : E.P.underlying kt = some (.int qk)) (qs : List (Int × β)) (hqs : aset ps q v = qs)
    (hnext : next (.mk T n (c + 1) B M (fMap r venc qs :: F.eraseIdx k1))) : OpW (opStop E o next T n c B M F) := by
  subst hqs
  refine ⟨fun A a w hW hT => ?_⟩
  obtain ⟨es, clock, h1, h2⟩ := (hW.nth k1 hF).1
  have hx' := (evalO_sound hT hx).1
  have hy' := (evalO_sound hT hy).1
  have hz' := (evalO_sound hT hz).1.trans (hs A)
  simp only [SV.den] at hx' hy'
  have hlt : r < w.heap.size := (Array.getElem?_eq_some_iff.1 h1).1
  have key : ∃ ob, (execOp a.eval o).run E.P w = .ok .skip { w with heap := w.heap.setIfInBounds r ob } ∧ mapIs r venc (aset ps q v) { w with heap := w.heap.setIfInBounds r ob } := by
    cases hi : aidx ps q with
    | none =>
      refine ⟨.map (es.push { key := .int .i64 q, val := venc v, born := clock }) (clock + 1), ?_, ?_⟩
      · simp only [execOp, hop, hx', hy', hz', Instr.mapUpdate, Sem.run_bind, underlying, run_program, Result.andThen_ok, ht, Sem.run_pure, run_getObj_map' h1, run_checkKey_int hkt, run_findKey_int hkt venc q es ps h2, hi, Option.map_none, run_setObj_map' h1]
      · refine ⟨es.push { key := .int .i64 q, val := venc v, born := clock }, clock + 1, by simp [hlt], ?_⟩
        rw [aset_none v hi]
        simp only [prs, Array.toList_push, List.map_append, kv] at h2 ⊢
        rw [h2]; rfl
    | some p =>
      obtain ⟨j, u⟩ := p
      obtain ⟨g1, g2⟩ := aset_some v hi
      have hkey : (es[j]?).map (·.key) = some (.int .i64 q) := by
        have := congrArg (fun l => l[j]?) h2
        simp only [prs, kv, List.getElem?_map, g2, Option.map_some, Array.getElem?_toList] at this
        cases he : es[j]? with
        | none => rw [he] at this; simp at this
        | some e => rw [he] at this; simp at this; simp [this.1]
      refine ⟨.map (es.modify j fun e => { e with key := .int .i64 q, val := venc v }) clock, ?_, ?_⟩
      · have hks : (Instr.keyThatStays (.int .i64 q) (.int .i64 q)).run E.P w = .ok (.int .i64 q) w := by
          have hsb : Instr.sameBits 10000 (.int .i64 q) (.int .i64 q) = true := by
            show Instr.sameBits (9999 + 1) (.int .i64 q) (.int .i64 q) = true
            simp [Instr.sameBits]
          simp [Instr.keyThatStays, hsb]
        simp only [execOp, hop, hx', hy', hz', Instr.mapUpdate, Sem.run_bind, underlying, run_program, Result.andThen_ok, ht, Sem.run_pure, run_getObj_map' h1, run_checkKey_int hkt, run_findKey_int hkt venc q es ps h2, hi, Option.map_some, hkey, Option.getD_some, hks, run_setObj_map' h1]
      · refine ⟨es.modify j fun e => { e with key := .int .i64 q, val := venc v }, clock, by simp [hlt], ?_⟩
        rw [g1]
        simp only [prs, kv, Array.toList_modify, List.map_set] at h2 ⊢
        rw [← h2]
        apply List.ext_getElem?
        intro k
        simp only [List.getElem?_map, List.getElem?_modify, List.getElem?_set]
        by_cases e : j = k
        · subst e
          simp only [if_true]
          cases he : es.toList[j]? with
          | none =>
            have : es[j]? = none := by simpa using he
            rw [this] at hkey; simp at hkey
          | some x =>
            have hl : j < es.size := by simpa using (List.getElem?_eq_some_iff.1 he).1
            simp [hl]
        · simp [e]
  obtain ⟨ob, h3, h4⟩ := key
  refine upon_of_skip h3 ?_
  rw [hd]
  exact ⟨_, ⟨_, hW.turnMap hF ob h4, hT.step _⟩, hnext⟩
end
end Go.Sx
