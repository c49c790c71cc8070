/- THE FRAMEWORK 'Sx', PART 4: the rest of the operations that only compute; all of them in one. No project text. -/
import Derived.Test.YtpopeaoklccgcaaSxc
namespace Go.Sx
open Go Go.RowKit

section
variable {E : Env} {A : Nat → Nat} {T : List (Nat × SV)} {n c : Nat} {B : List (Nat × TypeId × Nat)} {M : List ((Nat × Nat) × SV)} {F : List Fct} {a : Act} {w w' : World}

theorem pBin_sound {ti : Nat → TI} (hti : ∀ t, TIok E.P t (ti t)) (h : TD E A T n c a w) {op : BinOp} {t t' : TypeId} {x y : Operand} {s : SV} (hs : pBin (ti t) T op x y = some s) (o : Oper) (ho : o.op = .binOp op t x y t') : OKV E A n c w ((execOp a.eval o).run E.P w) s := by
  unfold pBin at hs
  split at hs
  · rename_i u hu
    split at hs
    · rename_i v hv
      split at hs
      · rename_i r hr
        simp at hs; subst hs
        have hrun := binV_run (hti t) (x := x) (y := y) hr w
        rw [Sem.run_bind] at hrun
        refine ⟨?_, trivial⟩
        simp only [execOp, ho, evalV_sound h hu, evalV_sound h hv, SV.den, Sem.run_bind, Sem.run_pure]
        cases hg : Sem.run E.P (eqGuard op t x y u v) w with
        | ok q w1 =>
          rw [hg] at hrun
          simp only [Result.andThen_ok] at hrun ⊢
          rw [hrun]; rfl
        | halt q w1 => rw [hg] at hrun; simp at hrun
      · cases hs
    · cases hs
  · cases hs
theorem pUn_sound (h : TD E A T n c a w) {op : UnOp} {t : TypeId} {x : Operand} {s : SV} (hs : pUn T op x = some s) (o : Oper) (ho : o.op = .unOp op t x) : OKV E A n c w ((execOp a.eval o).run E.P w) s := by
  unfold pUn at hs
  split at hs
  · split at hs
    · rename_i hx
      simp at hs; subst hs
      exact ⟨by simp [execOp, ho, (evalO_sound h hx).1, SV.den, Op.unary], trivial⟩
    · rename_i hx
      simp at hs; subst hs
      exact ⟨by simp [execOp, ho, (evalO_sound h hx).1, SV.den, Op.unary], trivial⟩
    · rename_i hx
      simp at hs; subst hs
      exact ⟨by simp [execOp, ho, (evalO_sound h hx).1, SV.den, Op.unary], trivial⟩
    · cases hs
  · split at hs
    · rename_i hx
      simp at hs; subst hs
      exact ⟨by simp [execOp, ho, (evalO_sound h hx).1, SV.den, Op.unary, Op.intArith], trivial⟩
    · cases hs
  · cases hs
theorem pConv_sound {ti : Nat → TI} (hti : ∀ t, TIok E.P t (ti t)) (h : TD E A T n c a w) {t t0 : TypeId} {x : Operand} {s : SV} {d0 : TypeDesc} (hd0 : E.P.underlying t0 = some d0) (hs : pConv (ti t) T x = some s) (o : Oper) (ho : o.op = .convert t0 t x) : OKV E A n c w ((execOp a.eval o).run E.P w) s := by
  unfold pConv at hs
  split at hs
  · rename_i k hk
    have hd : E.P.underlying t = some (.int k) := by
      cases hte : ti t with
      | none => rw [hte] at hk; simp [ikTI] at hk
      | mk agg size zero fs el ik kd bytes =>
        have htt := hti t
        rw [hte] at htt hk
        obtain ⟨ii, d, z, e1, e2, e3, e4, e5, e6, e7, e8, e9, e10, e11⟩ := tiSum_parts htt
        simp [ikTI] at hk
        rw [e2, ik_int (e9.trans hk)]
    split at hs
    · rename_i hx
      simp at hs; subst hs
      refine ⟨?_, trivial⟩
      simp [execOp, ho, (evalO_sound h hx).1, SV.den, convert, underlying, hd0, hd, Conv.intToInt]
    · cases hs
  · cases hs
theorem pLen_sound {ti : Nat → TI} (hti : ∀ t, TIok E.P t (ti t)) (h : TD E A T n c a w) {t : TypeId} {x : Operand} {s : SV} (hs : pLen T (ti t) x = some s) (o : Oper) (k : Call) (ho : o.op = .call k) (hk : k.callee = .builtin .len) (ha : k.args.toList = [x]) (hty : k.argTypes.toList = [t]) : OKV E A n c w ((execOp a.eval o).run E.P w) s := by
  unfold pLen at hs
  split at hs
  · rename_i hx
    split at hs
    · rename_i e _ _ _ hte
      simp at hs; subst hs
      have htt := hti t
      rw [hte] at htt
      obtain ⟨ii, d, z, e1, e2, e3, e4, e5, e6, e7, e8, e9, e10, e11⟩ := tiSum_parts htt
      have hd := el_slice e8
      have ha' : k.args = #[x] := by apply Array.ext'; simpa using ha
      have hty' : k.argTypes = #[t] := by apply Array.ext'; simpa using hty
      refine ⟨?_, trivial⟩
      simp [execOp, ho, resolve, hk, ha', hty', invoke, builtin, Builtin.len_, (evalO_sound h hx).1, SV.den, underlying, e2, hd, goInt]
    · cases hs
  · cases hs
theorem capsOf_sound (h : TD E A T n c a w) : ∀ {xs : List Operand} {l : List (Nat × Nat)}, capsOf T xs = some l → xs.map a.eval = l.map (fun x => ptr A x.1 x.2) ∧ ∀ x ∈ l, x.1 < n
  | [], l, hl => by simp [capsOf] at hl; subst hl; simp
  | x :: r, l, hl => by
    simp only [capsOf] at hl
    split at hl
    · rename_i k o hx
      obtain ⟨h1, h2⟩ := evalO_sound h hx
      split at hl
      · rename_i l' hl'
        simp at hl; subst hl
        obtain ⟨h3, h4⟩ := capsOf_sound h hl'
        refine ⟨by simp [h1, SV.den, h3], fun y hy => ?_⟩
        rcases List.mem_cons.1 hy with rfl | hy
        · exact h2
        · exact h4 y hy
      · cases hl
    · cases hl
theorem pFunc_sound (h : TD E A T n c a w) {fn : Fn} {first cap : Array Operand} {s : SV} (hs : pFunc T fn first cap = some s) (o : Oper) (ho : o.op = .makeFunc fn first cap) : OKV E A n c w ((execOp a.eval o).run E.P w) s := by
  unfold pFunc at hs
  split at hs
  · split at hs
    · rename_i hf
      split at hs
      · rename_i l hl
        simp at hs; subst hs
        obtain ⟨h1, h2⟩ := capsOf_sound h hl
        have hf' : first = #[] := by apply Array.ext'; simpa using hf
        have hc' : cap.map a.eval = (l.map (fun x => ptr A x.1 x.2)).toArray := by apply Array.ext'; simpa using h1
        refine ⟨?_, h2⟩
        simp [execOp, ho, Instr.makeFunc, hf', hc', SV.den]
      · cases hs
    · cases hs
  · cases hs
theorem pNil_sound (h : TD E A T n c a w) {x : Operand} {s : SV} (hs : pNil T x = some s) (o : Oper) (ho : o.op = .nilCheck x) : OKV E A n c w ((execOp a.eval o).run E.P w) s := by
  unfold pNil at hs
  split at hs
  · rename_i hx
    simp at hs; subst hs
    obtain ⟨h1, h2⟩ := evalO_sound h hx
    exact ⟨by simp [execOp, ho, h1, SV.den, ptr], h2⟩
  · rename_i hx
    simp at hs; subst hs
    obtain ⟨h1, h2⟩ := evalO_sound h hx
    exact ⟨by simp [execOp, ho, h1, SV.den], h2⟩
  · cases hs

theorem valCells_cells {u : Value} {l : List Value} (h : valCells u = some l) : u.cells.toList = l ∧ ∀ x ∈ l, x.oneCell' = true := by
  have key : ∀ l : List Value, allOne l = true → ∀ x ∈ l, x.oneCell' = true := by
    intro l
    induction l with
    | nil => intro _ x hx; cases hx
    | cons y r ih =>
      intro hl x hx
      simp only [allOne] at hl
      split at hl
      · rename_i hy
        rcases List.mem_cons.1 hx with rfl | hx
        · cases x <;> simp [oneB] at hy <;> rfl
        · exact ih hl x hx
      · cases hl
  cases u <;> simp only [valCells] at h
  case agg cs =>
    split at h
    · rename_i ha
      simp at h; subst h
      exact ⟨rfl, key _ ha⟩
    · cases h
  case tuple => cases h
  all_goals
    simp at h; subst h
    exact ⟨rfl, fun x hx => by simp at hx; subst hx; rfl⟩
theorem setAt_get : ∀ (l : List Value) (off : Nat) (xs : List Value), off + xs.length ≤ l.length → setAt l off xs = l.take off ++ xs ++ l.drop (off + xs.length)
  | l, off, [], h => by cases l <;> cases off <;> simp [setAt]
  | [], off, x :: xs, h => by simp at h
  | y :: r, 0, x :: xs, h => by
    have := setAt_get r 0 xs (by simp at h ⊢; omega)
    simp [setAt, this]
  | y :: r, n + 1, x :: xs, h => by
    have := setAt_get r n (x :: xs) (by simp at h ⊢; omega)
    simp [setAt, this, show n + 1 + (xs.length + 1) = n + (xs.length + 1) + 1 by omega]
theorem foldl_set (off : Nat) : ∀ (xs : List Value) (j : Nat) (acc : Array Value), (List.foldl (fun (cs : Array Value) (x : Value × Nat) => cs.setIfInBounds (off + x.2) x.1) acc (xs.zipIdx j)).toList = List.foldl (fun (l : List Value) (x : Value × Nat) => l.set (off + x.2) x.1) acc.toList (xs.zipIdx j)
  | [], j, acc => rfl
  | x :: xs, j, acc => by
    simp only [List.zipIdx_cons, List.foldl_cons]
    rw [foldl_set off xs (j + 1)]
    simp
theorem foldl_set_eq : ∀ (xs : List Value) (j off : Nat) (l : List Value), off + j + xs.length ≤ l.length → (xs.zipIdx j).foldl (fun l (x : Value × Nat) => l.set (off + x.2) x.1) l = l.take (off + j) ++ xs ++ l.drop (off + j + xs.length)
  | [], j, off, l, h => by simp
  | x :: xs, j, off, l, h => by
    simp only [List.zipIdx_cons, List.foldl_cons]
    rw [foldl_set_eq xs (j + 1) off _ (by simp at h ⊢; omega)]
    have hlt : off + j < l.length := by simp at h; omega
    have e1 : (l.set (off + j) x).take (off + (j + 1)) = l.take (off + j) ++ [x] := by
      rw [show off + (j + 1) = off + j + 1 by omega, List.take_add_one, List.take_set_of_le (Nat.le_refl _)]
      simp [hlt]
    have e2 : (l.set (off + j) x).drop (off + (j + 1) + xs.length) = l.drop (off + (j + 1) + xs.length) := by
      rw [List.drop_set_of_lt (by omega)]
    rw [e1, e2]
    simp [show off + (j + 1) + xs.length = off + j + (xs.length + 1) by omega]
theorem fill_one {cs : Array Value} {off : Nat} {u : Value} (hl : off + u.cells.size ≤ cs.size) : (u.cells.zipIdx.foldl (fun cs (c, j) => cs.setIfInBounds (off + j) c) cs).toList = setAt cs.toList off u.cells.toList := by
  rw [setAt_get _ _ _ (by simpa using hl)]
  rw [← Array.foldl_toList, Array.toList_zipIdx]
  have := foldl_set off u.cells.toList 0 cs
  have h2 := foldl_set_eq u.cells.toList 0 off cs.toList (by simpa using hl)
  rw [h2] at this
  simpa using this
theorem pBuildGo_sound (h : TD E A T n c a w) {fs : List (Nat × Nat × Bool)} {places : Nat → Option (Nat × Nat)} (hp : ∀ i off sz ag, nth fs i = some (off, sz, ag) → places i = some (off, sz)) :
    ∀ {ps : List (Nat × Operand)} {cs : Array Value} {l : List Value}, pBuildGo fs T cs.toList ps = some l → Instr.fill places cs (ps.map fun x => (x.1, a.eval x.2)) = some l.toArray
  | [], cs, l, hl => by simp [pBuildGo] at hl; subst hl; simp [Instr.fill]
  | (i, x) :: r, cs, l, hl => by
    simp only [pBuildGo] at hl
    split at hl
    · rename_i off sz ag hf
      split at hl
      · rename_i u hu
        split at hl
        · rename_i lu hlu
          split at hl
          · rename_i hsz
            split at hl
            · rename_i hle
              obtain ⟨c1, c2⟩ := valCells_cells hlu
              have hsz' := Nat.eq_of_beq_eq_true hsz
              have hle' := Nat.le_of_ble_eq_true hle
              have hus : u.cells.size = sz := by rw [← hsz', ← c1]; simp
              have hle2 : off + u.cells.size ≤ cs.size := by simpa [hus] using hle'
              have hset := fill_one (cs := cs) (off := off) (u := u) hle2
              rw [c1] at hset
              rw [← hset] at hl
              have ih := pBuildGo_sound h hp hl
              simp only [List.map_cons, Instr.fill, hp _ _ _ _ hf, evalV_sound h hu]
              rw [if_neg (by simp [hus]; simpa [hus] using hle2)]
              exact ih
            · cases hl
          · cases hl
        · cases hl
      · cases hl
    · cases hl
theorem run_mapM_places {P : Program} {w : World} : ∀ (fields : List Field) (fs : List (Nat × Nat × Bool)), fields.map (fun f => (f.offset, (P.info? f.type).map (·.size), (P.underlying f.type).map isAggD)) = fs.map (fun x => (x.1, some x.2.1, some x.2.2)) →
    (fields.mapM (fun f => do pure (f.offset, ← sizeOf f.type) : Field → Sem (Nat × Nat))).run P w = .ok (fs.map fun x => (x.1, x.2.1)) w
  | [], fs, h => by
    cases fs with
    | nil => simp
    | cons x r => simp at h
  | f :: fields, fs, h => by
    cases fs with
    | nil => simp at h
    | cons x r =>
      simp only [List.map_cons, List.cons.injEq, Prod.mk.injEq] at h
      obtain ⟨⟨h1, h2, h3⟩, h4⟩ := h
      cases hi : P.info? f.type with
      | none => rw [hi] at h2; simp at h2
      | some fi =>
        rw [hi] at h2
        simp at h2
        have ih := run_mapM_places (w := w) fields r h4
        simp only [List.mapM_cons, Sem.run_bind, run_sizeOf hi, Result.andThen_ok, Sem.run_pure, ih, List.map_cons, h1, h2]
theorem pBuild_sound {ti : Nat → TI} (hti : ∀ t, TIok E.P t (ti t)) (h : TD E A T n c a w) {t : TypeId} {ps : Array (Nat × Operand)} {s : SV} (hs : pBuild (ti t) T ps = some s) (o : Oper) (ho : o.op = .build t ps) : OKV E A n c w ((execOp a.eval o).run E.P w) s := by
  unfold pBuild at hs
  split at hs
  · rename_i agg size zero f0 fs0 el ik kd bytes hte
    have htt := hti t
    rw [hte] at htt
    obtain ⟨ii, d, z, e1, e2, e3, e4, e5, e6, e7, e8, e9, e10, e11⟩ := tiSum_parts htt
    split at hs
    · rename_i l hl
      simp at hs; subst hs
      obtain ⟨fields, hfl⟩ : ∃ fields, d = .struct fields := by
        cases d <;> simp [fsOf] at e7 <;> exact ⟨_, rfl⟩
      subst hfl
      simp only [fsOf] at e7
      have hplaces := run_mapM_places (w := w) _ _ e7
      have hpl2 : ∀ i off sz ag, nth (f0 :: fs0) i = some (off, sz, ag) → (((f0 :: fs0).map fun x => (x.1, x.2.1)).toArray)[i]? = some (off, sz) := by
        intro i off sz ag hi
        rw [nth_eq] at hi
        rw [List.getElem?_toArray, List.getElem?_map, hi]
        rfl
      rw [← e6] at hl
      have hfill := pBuildGo_sound h hpl2 hl
      have hmap : (fields.mapM (fun f => do pure (f.offset, ← sizeOf f.type) : Field → Sem (Nat × Nat))).run E.P w = .ok (((f0 :: fs0).map fun x => (x.1, x.2.1)).toArray) w := by
        rw [← Array.toArray_toList (xs := fields), List.mapM_toArray]
        simp only [Sem.run_map, hplaces, Result.andThen_ok]
      refine ⟨?_, trivial⟩
      have hps : (ps.map fun (x : Nat × Operand) => (x.1, a.eval x.2)).toList = ps.toList.map fun x => (x.1, a.eval x.2) := by simp
      simp only [execOp, ho, Instr.build, Sem.run_bind, zeroValue, typeInfo, underlying, run_program, Result.andThen_ok, e1, e5, e2, Sem.run_pure, hmap, hps]
      rw [hfill]
      rfl
    · cases hs
  · cases hs

theorem pureV_sound {ti : Nat → TI} (hti : ∀ t, TIok E.P t (ti t)) (hM : ∀ k o v, lookM M k o = some v → w.cell? ⟨A k, o, none⟩ = some (v.den A) ∧ v.small n) (h : TD E A T n c a w) {o : Oper} {s : SV} (hs : pureV ti T c M o.op = some s) : OKV E A n c w ((execOp a.eval o).run E.P w) s := by
  cases hop : o.op <;> rw [hop] at hs <;> simp only [pureV] at hs <;> try (cases hs; done)
  · exact pMove_sound h hs o (.inl hop)
  · exact pMove_sound h hs o (.inr hop)
  · exact pPick_sound h hs o hop
  · exact pBuild_sound hti h hs o hop
  · exact pLoad_sound hti hM h hs o hop
  · exact pNil_sound h hs o hop
  · exact pBin_sound hti h hs o hop
  · exact pUn_sound h hs o hop
  · rename_i t0 t x
    split at hs
    · cases hs
    · rename_i agg size zero fs el ik kd bytes hte
      have htt := hti t0
      rw [hte] at htt
      obtain ⟨ii, d, z, e1, e2, _⟩ := tiSum_parts htt
      exact pConv_sound hti h e2 hs o hop
  · exact pFunc_sound h hs o hop
  · exact pFieldAddr_sound hti h hs o hop
  · exact pField_sound hti h hs o hop
  · exact pExtract_sound h hs o hop
  · rename_i k
    split at hs
    · rename_i hk
      split at hs
      · rename_i x hx
        split at hs
        · rename_i t ht
          exact pLen_sound hti h hs o k hop hk hx ht
        · cases hs
      · cases hs
    · cases hs
end
end Go.Sx
