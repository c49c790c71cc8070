/- THE FRAMEWORK 'Sx', PART 9: the laws at the operations where the computation stops: calls, append, indexes, slices. No project text. -/
import Derived.Test.YtpopeaoklccgcaaSxh
namespace Go.Sx
open Go Go.RowKit

def callable (P : Program) (g : FuncId) : Bool :=
  match P.funcs[g]? with
  | some fn => !(fn.name == "runtime.NumGoroutine") && !fn.body.isNone
  | none => false
theorem run_callFunc {P : Program} {g : FuncId} (h : callable P g = true) (args : Array Value) (w : World) : (callFunc g args).run P w = .ok (.enter g args) w := by
  unfold callable at h
  split at h
  · rename_i fn hf
    simp only [Bool.and_eq_true, Bool.not_eq_true'] at h
    have h1 : ¬ fn.name = "runtime.NumGoroutine" := by simpa using h.1
    have h2 : ¬ fn.body = none := by intro e; rw [e] at h; simp at h
    simp [callFunc, hf, h1, h2]
  · cases h

/-- The elements' cells, laid one after the other. -/
def cells {α : Type} (enc : α → List Value) (xs : List α) : List Value := xs.flatMap enc
structure Enc {α : Type} (enc : α → List Value) (sz : Nat) : Prop where
  len : ∀ x, (enc x).length = sz
  one : ∀ x, ∀ u ∈ enc x, u.oneCell' = true
section
variable {α : Type} {enc : α → List Value} {sz : Nat}
theorem cells_length (h : Enc enc sz) (xs : List α) : (cells enc xs).length = xs.length * sz := by
  induction xs with
  | nil => simp [cells]
  | cons x r ih =>
    simp only [cells, List.flatMap_cons, List.length_append, List.length_cons] at ih ⊢
    rw [ih, h.len, Nat.succ_mul]; omega
theorem cells_append (xs ys : List α) : cells enc (xs ++ ys) = cells enc xs ++ cells enc ys := by simp [cells]
theorem cells_take (h : Enc enc sz) : ∀ (xs : List α) (k : Nat), cells enc (xs.take k) = (cells enc xs).take (k * sz)
  | [], k => by simp [cells]
  | x :: r, 0 => by simp [cells]
  | x :: r, k + 1 => by
    have ih := cells_take h r k
    simp only [cells, List.take_succ_cons, List.flatMap_cons] at ih ⊢
    have e1 : (enc x).take (sz + k * sz) = enc x := List.take_of_length_le (by rw [h.len]; omega)
    rw [ih, Nat.succ_mul, Nat.add_comm, List.take_append, h.len, e1, Nat.add_sub_cancel_left]
theorem cells_drop (h : Enc enc sz) : ∀ (xs : List α) (k : Nat), cells enc (xs.drop k) = (cells enc xs).drop (k * sz)
  | [], k => by simp [cells]
  | x :: r, 0 => by simp
  | x :: r, k + 1 => by
    have ih := cells_drop h r k
    simp only [cells, List.drop_succ_cons, List.flatMap_cons] at ih ⊢
    have e1 : (enc x).drop (sz + k * sz) = [] := List.drop_of_length_le (by rw [h.len]; omega)
    rw [ih, Nat.succ_mul, Nat.add_comm, List.drop_append, h.len, e1, Nat.add_sub_cancel_left, List.nil_append]
theorem cells_at (h : Enc enc sz) {xs : List α} {k : Nat} (hk : k < xs.length) {j : Nat} {u : Value} (hu : (enc xs[k])[j]? = some u) : (cells enc xs)[k * sz + j]? = some u := by
  have h1 : (cells enc xs).drop (k * sz) = enc xs[k] ++ cells enc (xs.drop (k + 1)) := by
    rw [← cells_drop h, List.drop_eq_getElem_cons hk]; rfl
  rw [← List.getElem?_drop, h1, List.getElem?_append_left (List.getElem?_eq_some_iff.1 hu).1, hu]
theorem cells_one (h : Enc enc sz) (xs : List α) : ∀ u ∈ cells enc xs, u.oneCell' = true := by
  intro u hu
  obtain ⟨x, _, hx⟩ := List.mem_flatMap.1 hu
  exact h.one x u hx
end

/-- A fact's place. -/
structure IsAt (F : List Fct) (k : Nat) (f : Fct) : Prop where
  h : F[k]? = some f
theorem isAt {F : List Fct} (k : Nat) {f : Fct} (h : F[k]? = some f) : IsAt F k f := ⟨h⟩

/-- A slice that reads as xs. -/
abbrev sl {α : Type} (i : Sl) (enc : α → List Value) (sz : Nat) (xs : List α) : Fct := fSl false i sz (cells enc xs) xs.length
/-- A slice of the call's own that reads as xs. -/
abbrev own {α : Type} (i : Sl) (e : TypeId) (enc : α → List Value) (sz : Nat) (xs : List α) : Fct := fOwn false i e sz (cells enc xs) xs.length

def cInt (x : Int) : List Value := [.int .i64 x]
theorem encInt : Enc cInt 1 := ⟨fun _ => rfl, fun _ u hu => by simp [cInt] at hu; subst hu; rfl⟩

theorem rdAt {F : List Fct} (k : Nat) {old : Bool} {i : Sl} {sz m : Nat} {cs : List Value} (hk : F[k]? = some (fSl old i sz cs m)) : ∀ w, (∀ f ∈ F, f.P w) → RdS w i sz cs m :=
  fun _w h => h _ (List.mem_of_getElem? hk)
theorem rdOwnAt {F : List Fct} (k : Nat) {old : Bool} {i : Sl} {e sz m : Nat} {cs : List Value} (hk : F[k]? = some (fOwn old i e sz cs m)) : ∀ w, (∀ f ∈ F, f.P w) → RdS w i sz cs m :=
  fun _w h => own_rd (h _ (List.mem_of_getElem? hk))

section
variable {E : Env} {ti : Nat → TI} {A : Nat → Nat} {T : List (Nat × SV)} {n c : Nat} {B : List (Nat × TypeId × Nat)} {M : List ((Nat × Nat) × SV)} {F : List Fct} {o : Oper} {next : St → Prop}

/-- The slot of an operation that yields a value. -/
def Dst (E : Env) (o : Oper) (d : Nat) : Prop := o.dst = some d ∧ Nat.blt d E.N = true
theorem Dst.lt {d : Nat} (h : Dst E o d) : d < E.N := by simpa using h.2

/-- A call of a Go function by its contract. -/
theorem stop_call (R : Value → List Fct → Prop) {k : Call} {fo : Operand} {g : FuncId} {cap : List (Nat × Nat)} {l : List SV} {d : Nat} (hc : callable E.P g = true)
    (hop : o.op = .call k) (hk : k.callee = .value fo) (hf : evalO T fo = some (.f g cap)) (ha : evalOs T k.args.toList = some l) (hd : Dst E o d)
    (hcall : ∀ A w, WD E A n B M F w → Calls E.P g ((l.map (SV.den A)) ++ cap.map (fun x => ptr A x.1 x.2)).toArray w (Ret w R))
    (hnext : ∀ v L, R v L → next (.mk ((d, .v v) :: T) n (c + 1) B M (L ++ F))) :
    OpW (opStop E o next T n c B M F) := by
  refine ⟨fun A a w hW hT => ?_⟩
  have hargs : (k.args.map a.eval).toList = l.map (SV.den A) := by rw [Array.toList_map]; exact evalOs_sound hT ha
  have hfv := (evalO_sound hT hf).1
  have hr : (execOp a.eval o).run E.P w = .ok (.enter g ((l.map (SV.den A)) ++ cap.map (fun x => ptr A x.1 x.2)).toArray) w := by
    have hcat : (k.args.map a.eval) ++ (cap.map (fun x => ptr A x.1 x.2)).toArray = ((l.map (SV.den A)) ++ cap.map (fun x => ptr A x.1 x.2)).toArray := by
      apply Array.ext'; rw [Array.toList_append, hargs]
    simp only [execOp, hop, resolve, hk, Sem.run_bind, hfv, SV.den, Deferred.ofValue, Sem.run_pure, Result.andThen_ok, Array.empty_append, invoke, hcat, run_callFunc hc]
  unfold Oper.wp
  rw [hr, Oper.upon_enter]
  refine (hcall A w hW).mono ?_
  rintro e w' ⟨v, L, rfl, he, hL, hR⟩
  refine ⟨_, ⟨_, hW.learn he hL, ?_⟩, hnext v L hR⟩
  rw [hd.1]
  exact (hT.step w').put (v := .v v) hd.lt trivial
/-- A call of a Go function without a result's slot. -/
theorem stop_call0 (R : Value → List Fct → Prop) {k : Call} {fo : Operand} {g : FuncId} {cap : List (Nat × Nat)} {l : List SV} (hc : callable E.P g = true)
    (hop : o.op = .call k) (hk : k.callee = .value fo) (hf : evalO T fo = some (.f g cap)) (ha : evalOs T k.args.toList = some l) (hd : o.dst = none)
    (hcall : ∀ A w, WD E A n B M F w → Calls E.P g ((l.map (SV.den A)) ++ cap.map (fun x => ptr A x.1 x.2)).toArray w (Ret w R))
    (hnext : ∀ v L, R v L → next (.mk T n (c + 1) B M (L ++ F))) :
    OpW (opStop E o next T n c B M F) := by
  refine ⟨fun A a w hW hT => ?_⟩
  have hargs : (k.args.map a.eval).toList = l.map (SV.den A) := by rw [Array.toList_map]; exact evalOs_sound hT ha
  have hfv := (evalO_sound hT hf).1
  have hr : (execOp a.eval o).run E.P w = .ok (.enter g ((l.map (SV.den A)) ++ cap.map (fun x => ptr A x.1 x.2)).toArray) w := by
    have hcat : (k.args.map a.eval) ++ (cap.map (fun x => ptr A x.1 x.2)).toArray = ((l.map (SV.den A)) ++ cap.map (fun x => ptr A x.1 x.2)).toArray := by
      apply Array.ext'; rw [Array.toList_append, hargs]
    simp only [execOp, hop, resolve, hk, Sem.run_bind, hfv, SV.den, Deferred.ofValue, Sem.run_pure, Result.andThen_ok, Array.empty_append, invoke, hcat, run_callFunc hc]
  unfold Oper.wp
  rw [hr, Oper.upon_enter]
  refine (hcall A w hW).mono ?_
  rintro e w' ⟨v, L, rfl, he, hL, hR⟩
  refine ⟨_, ⟨_, hW.learn he hL, ?_⟩, hnext v L hR⟩
  rw [hd]
  exact hT.step w'

/-- An index into a slice that reads. -/
theorem stop_idx {α : Type} {enc : α → List Value} {sz : Nat} (he : Enc enc sz) {t e : TypeId} {x ix : Operand} {i : Sl} {xs : List α} {kd : IntKind} {m : Int} {d : Nat} {agg : Bool} {size : Nat} {zero : List Value} {fs : List (Nat × Nat × Bool)} {ik : Option IntKind} {kk bytes : Nat} {agg2 : Bool} {zero2 : List Value} {fs2 : List (Nat × Nat × Bool)} {el2 : Option TypeId} {ik2 : Option IntKind} {kk2 bytes2 : Nat}
    (hti : ∀ t, TIok E.P t (ti t)) (hop : o.op = .indexAddr t x ix) (hx : evalO T x = some (.v (i.val xs.length))) (hix : evalO T ix = some (.v (.int kd m)))
    (ht : ti t = .mk agg size zero fs (some e) ik kk bytes) (hte : ti e = .mk agg2 sz zero2 fs2 el2 ik2 kk2 bytes2) (hd : Dst E o d)
    (hF : ∀ w, (∀ f ∈ F, f.P w) → RdS w i sz (cells enc xs) xs.length) (j : Nat) (hj : m = (j : Int)) (hlt : j < xs.length)
    (hnext : ∀ ad : Addr, next (.mk ((d, .e c ad (enc xs[j]) 0) :: T) n c B M F)) :
    OpW (opStop E o next T n c B M F) := by
  refine ⟨fun A a w hW hT => ?_⟩
  obtain ⟨h1, h2, h3, h4⟩ := hF w (fun f hf => (hW.fct f hf).1)
  obtain ⟨ad, had, hcs⟩ := h4 (by omega)
  have htt := hti t
  rw [ht] at htt
  obtain ⟨ii, dd, z, e1, e2, e3, e4, e5, e6, e7, e8, e9, e10, e11⟩ := tiSum_parts htt
  have htt2 := hti e
  rw [hte] at htt2
  obtain ⟨ii2, dd2, z2, k1, k2, k3, k4, k5, k6, k7, k8, k9, k10, k11⟩ := tiSum_parts htt2
  have hdd := el_slice e8
  subst hj
  have hr : (execOp a.eval o).run E.P w = .ok (.value (.pointer (some (ad.add (j * sz))))) w := by
    have hx' : a.eval x = .slice (some ad) xs.length i.c := by rw [(evalO_sound hT hx).1]; simp [SV.den, Sl.val, had]
    have hix' : a.eval ix = .int kd j := (evalO_sound hT hix).1
    simp [execOp, hop, Instr.indexAt, hx', hix', asIntOf, underlying, e2, hdd, run_sizeOf k1, k4, hlt]
  refine upon_of_value hr ?_
  rw [hd.1]
  have hput := hT.put (d := d) (v := .e c (ad.add (j * sz)) (enc xs[j]) 0) hd.lt ⟨Nat.le_refl _, fun _ q u hu => by
    rw [addr_add_add]
    exact hcs _ u (cells_at he hlt hu)⟩
  have hden : (SV.e c (ad.add (j * sz)) (enc xs[j]) 0).den A = .pointer (some (ad.add (j * sz))) := by
    simp [SV.den, Addr.add]
  rw [hden] at hput
  exact ⟨_, ⟨_, hW, hput⟩, hnext (ad.add (j * sz))⟩

theorem append_nil_run {P : Program} (w : World) (base : Nat) (t ty e : TypeId) (i : TypeInfo) (size : Nat) (ht : P.underlying t = some (.slice e)) (hi : P.info? e = some i)
    (v : Value) (m : Nat) (xs : List Value) (hown : w.ownsRow base e size v m xs) (cp : Nat) : (Builtin.append_ #[t, t] ty #[v, .slice none 0 cp]).run P w = .ok v w := by
  rcases hown.2 with ⟨rfl, rfl⟩ | ⟨g, cap, cur, rfl, _, _, hnc, _⟩
  · simp [Builtin.append_, underlying, ht, sizeOf, typeInfo, hi, Builtin.lenOf, Builtin.firstCells]
  · simp [Builtin.append_, underlying, ht, sizeOf, typeInfo, hi, Builtin.lenOf, Builtin.firstCells, hnc, storeCells]

/-- append of what reads, onto an own row: the run. -/
theorem run_app {P : Program} (w : World) {t e : TypeId} {info : TypeInfo} {z : Value} {sz : Nat} (ty : TypeId) (ht : P.underlying t = some (.slice e)) (hi : P.info? e = some info) (hz : info.zero = some z) (hsz : info.size = sz) (hzs : z.cells.size = sz) (h0 : 0 < sz)
    {i j : Sl} {cs ds : List Value} {p q : Nat} (hown : w.ownsRow 0 e sz (i.val p) p cs) (hrd : RdS w j sz ds q) (h1 : ∀ u ∈ ds, u.oneCell' = true) (hb : (p + q) * info.bytes ≤ 140737488355328) (hm : p + q ≤ maxLen) :
    ∃ (y : Sl) (w' : World), (Builtin.append_ #[t, t] ty #[i.val p, j.val q]).run P w = .ok (y.val (p + q)) w' ∧ w'.ownsRow 0 e sz (y.val (p + q)) (p + q) (cs ++ ds) ∧ w.grownBy w' (i.val p).ownBlock ∧ ((y.val (p + q)).ownBlock = (i.val p).ownBlock ∨ (y.val (p + q)).ownBlock = some w.heap.size) := by
  have key : ∃ v' w', (Builtin.append_ #[t, t] ty #[i.val p, j.val q]).run P w = .ok v' w' ∧ w'.ownsRow 0 e sz v' (p + q) (cs ++ ds) ∧ w.grownBy w' (i.val p).ownBlock ∧ (v'.ownBlock = (i.val p).ownBlock ∨ v'.ownBlock = some w.heap.size) := by
    cases ha : j.a with
    | none =>
      have hq : q = 0 := by
        rcases Nat.eq_zero_or_pos q with h | h
        · exact h
        · obtain ⟨ad, h2, _⟩ := hrd.2.2.2 h
          rw [ha] at h2; cases h2
      subst hq
      have hds : ds = [] := List.eq_nil_of_length_eq_zero (by have := hrd.1; simpa using this)
      subst hds
      refine ⟨_, w, ?_, by simpa using hown, World.grownBy.refl w _, .inl rfl⟩
      have := append_nil_run (P := P) w 0 t ty e info sz ht hi _ p cs hown j.c
      simp only [Sl.val, ha] at this ⊢
      exact this
    | some ad =>
      have hcells : ∀ k u, ds[k]? = some u → w.cell? (ad.add k) = some u := by
        intro k u hu
        have hq : 0 < q := by
          rcases Nat.eq_zero_or_pos q with h | h
          · have : ds = [] := List.eq_nil_of_length_eq_zero (by have := hrd.1; rw [h] at this; simpa using this)
            rw [this] at hu; simp at hu
          · exact h
        obtain ⟨ad', h2, h3⟩ := hrd.2.2.2 hq
        rw [ha] at h2
        injection h2 with h2
        subst h2
        exact h3 k u hu
      obtain ⟨v', w', h2, h3, h4, _, h5⟩ := run_append_own_at (P := P) w 0 t ty e info z sz info.bytes ht hi hz hsz rfl hzs h0 (i.val p) p cs hown ad q j.c ds hrd.1 hcells h1 hm hb (Nat.zero_le _)
      refine ⟨v', w', ?_, h3, h4, h5⟩
      simp only [Sl.val, ha] at h2 ⊢
      exact h2
  obtain ⟨v', w', h2, h3, h4, h5⟩ := key
  have hv : ∃ y : Sl, v' = y.val (p + q) := by
    rcases h3.2 with ⟨h6, h7⟩ | ⟨g, cap, cur, h6, _⟩
    · exact ⟨⟨none, 0⟩, by rw [h6, Sl.val, h7]⟩
    · exact ⟨⟨some ⟨g, 0, none⟩, cap⟩, h6⟩
  obtain ⟨y, rfl⟩ := hv
  exact ⟨y, w', h2, h3, h4, h5⟩

theorem eraseIdx_sub (F : List Fct) (k : Nat) : (F.eraseIdx k).Sublist F := List.eraseIdx_sublist F k
theorem pairwise_nth_erase {F : List Fct} (h : F.Pairwise Dj) {k : Nat} {f : Fct} (hk : F[k]? = some f) : ∀ g ∈ F.eraseIdx k, Dj f g := by
  induction F generalizing k with
  | nil => simp at hk
  | cons x r ih =>
    rw [List.pairwise_cons] at h
    cases k with
    | zero =>
      simp at hk; subst hk
      intro g hg
      exact h.1 g (by simpa using hg)
    | succ k =>
      simp at hk
      intro g hg
      simp at hg
      rcases hg with rfl | hg
      · exact (h.1 f (List.mem_of_getElem? hk)).symm
      · exact ih h.2 hk g hg

/-- An own row has been written or moved: its new fact in the place of the old one. -/
theorem WD.turn {w w' : World} (h : WD E A n B M F w) {k : Nat} {i y : Sl} {e sz p q : Nat} {cs ds : List Value} (hk : F[k]? = some (fOwn false i e sz cs p))
    (hg : w.grownBy w' (i.val p).ownBlock) (ho : w'.ownsRow 0 e sz (y.val q) q ds) (hy : (y.val q).ownBlock = (i.val p).ownBlock ∨ (y.val q).ownBlock = some w.heap.size) :
    WD E A n B M (fOwn false y e sz ds q :: F.eraseIdx k) w' := by
  have hX : ExtX (fun b => (fOwn false i e sz cs p).foot b) w w' := by
    refine ExtX.grown hg fun g hgg => ?_
    simp only [Sl.val, Value.ownBlock] at hgg
    cases ha : i.a with
    | none => rw [ha] at hgg; simp at hgg
    | some ad => rw [ha] at hgg; simp at hgg; exact ⟨ad, ha, hgg.symm⟩
  have hfk := h.fct _ (List.mem_of_getElem? hk)
  have hsub := h.sub (eraseIdx_sub F k)
  have hdj := pairwise_nth_erase h.dj hk
  have hW' : WD E A n B M (F.eraseIdx k) w' := by
    refine hsub.grow hX (fun k' ty sz' hk' hf => (hfk.2.1 _ hf).2 k' ty sz' hk' rfl) (fun f hf b hb hb' => hdj f hf (.inl rfl) b hb' hb) (fun b hb hf => ?_)
    exact (hfk.2.2 rfl b hf).resolve_left (by omega)
  have hfoot : ∀ b, (fOwn false y e sz ds q).foot b → (fOwn false i e sz cs p).foot b ∨ b = w.heap.size := by
    rintro b ⟨ad, h1, rfl⟩
    simp only [Sl.val, Value.ownBlock, h1] at hy
    rcases hy with hy | hy
    · cases ha : i.a with
      | none => rw [ha] at hy; simp at hy
      | some ad' => rw [ha] at hy; simp at hy; exact .inl ⟨ad', ha, hy⟩
    · simp at hy; exact .inr hy
  refine ⟨hW'.key, hW'.inj, hW'.mem, hW'.a0, hW'.n0, hW'.ext, ?_, ?_⟩
  · intro f hf
    rcases List.mem_cons.1 hf with rfl | hf
    · refine ⟨ho, fun b hb => ?_, fun _ b hb => ?_⟩
      · refine ⟨?_, fun k' ty sz' hk' e => ?_⟩
        · have hlt := ho.lt b (by
            obtain ⟨ad, h1, rfl⟩ := hb
            simp [Sl.val, Value.ownBlock, h1])
          exact hlt.2
        · rcases hfoot b hb with h1 | h1
          · exact (hfk.2.1 b h1).2 k' ty sz' hk' e
          · have := (h.key k' ty sz' hk').2.1
            omega
      · rcases hfoot b hb with h1 | h1
        · exact hfk.2.2 rfl b h1
        · rw [h1]; exact .inl h.ext.size
    · exact hW'.fct f hf
  · rw [List.pairwise_cons]
    refine ⟨fun g hg _ b hb hb' => ?_, hW'.dj⟩
    rcases hfoot b hb with h1 | h1
    · exact hdj g hg (.inl rfl) b h1 hb'
    · have := ((hsub.fct g hg).2.1 b hb').1
      omega

/-- append, the first operand an own row. -/
theorem stop_app {α : Type} {enc : α → List Value} {sz : Nat} (he : Enc enc sz) (k1 : Nat) {xs ys : List α} {i j : Sl} {k : Call} {t e : TypeId} {x y : Operand} {d : Nat} {agg : Bool} {size : Nat} {zero : List Value} {fs : List (Nat × Nat × Bool)} {ik : Option IntKind} {kk bytes : Nat} {agg2 : Bool} {zero2 : List Value} {fs2 : List (Nat × Nat × Bool)} {el2 : Option TypeId} {ik2 : Option IntKind} {kk2 bytes2 : Nat}
    (hti : ∀ t, TIok E.P t (ti t)) (hop : o.op = .call k) (hk : k.callee = .builtin .append) (ha : k.args.toList = [x, y]) (hty : k.argTypes.toList = [t, t])
    (hx : evalO T x = some (.v (i.val xs.length))) (hy : evalO T y = some (.v (j.val ys.length)))
    (ht : ti t = .mk agg size zero fs (some e) ik kk bytes) (hte : ti e = .mk agg2 sz zero2 fs2 el2 ik2 kk2 bytes2) (hz2 : listLen zero2 = sz) (hsz0 : 0 < sz) (hd : Dst E o d)
    (hF1 : F[k1]? = some (own i e enc sz xs)) (hF2 : ∀ w, (∀ f ∈ F, f.P w) → RdS w j sz (cells enc ys) ys.length)
    (hb : (xs.length + ys.length) * bytes2 ≤ 140737488355328) (hm : xs.length + ys.length ≤ maxLen)
    (hnext : ∀ y : Sl, next (.mk ((d, .v (y.val (xs ++ ys).length)) :: T) n (c + 1) B M (own y e enc sz (xs ++ ys) :: F.eraseIdx k1))) :
    OpW (opStop E o next T n c B M F) := by
  refine ⟨fun A a w hW hT => ?_⟩
  have htt := hti t
  rw [ht] at htt
  obtain ⟨ii, dd, z, e1, e2, e3, e4, e5, e6, e7, e8, e9, e10, e11⟩ := tiSum_parts htt
  have htt2 := hti e
  rw [hte] at htt2
  obtain ⟨ii2, dd2, z2, g1, g2, g3, g4, g5, g6, g7, g8, g9, g10, g11⟩ := tiSum_parts htt2
  have hdd := el_slice e8
  have hown := (hW.nth k1 hF1).1
  have hrd := hF2 w (fun f hf => (hW.fct f hf).1)
  have hz : z2.cells.size = sz := by rw [← hz2, listLen_eq, ← g6]; simp
  obtain ⟨y', w', h1, h2, h3, h4⟩ := run_app (P := E.P) w o.type (by rw [e2, hdd]) g1 g5 g4 hz hsz0 hown hrd (cells_one he ys) (by rw [g11]; exact hb) hm
  have hr : (execOp a.eval o).run E.P w = .ok (.value (y'.val (xs.length + ys.length))) w' := by
    have hargs : k.args = #[x, y] := by apply Array.ext'; simpa using ha
    have htys : k.argTypes = #[t, t] := by apply Array.ext'; simpa using hty
    have hx' : a.eval x = i.val xs.length := (evalO_sound hT hx).1
    have hy' : a.eval y = j.val ys.length := (evalO_sound hT hy).1
    simp only [execOp, hop, resolve, hk, hargs, htys, Sem.run_bind, Sem.run_pure, Result.andThen_ok, invoke, builtin, List.map_toArray, List.map_cons, List.map_nil, hx', hy', h1]
  refine upon_of_value hr ?_
  rw [hd.1]
  have hn := hnext y'
  rw [List.length_append] at hn
  refine ⟨_, ⟨_, ?_, (hT.step w').put (v := .v (y'.val (xs.length + ys.length))) hd.lt trivial⟩, hn⟩
  have := hW.turn hF1 h3 (ds := cells enc xs ++ cells enc ys) h2 h4
  rw [← cells_append] at this
  show WD E A n B M (fOwn false y' e sz (cells enc (xs ++ ys)) (xs ++ ys).length :: F.eraseIdx k1) w'
  rw [List.length_append]
  exact this
/-- The same, the own slice found by search. -/
theorem stop_appK {α : Type} {enc : α → List Value} {sz : Nat} (he : Enc enc sz) {k1 : Nat} {xs ys : List α} {i j : Sl} {k : Call} {t e : TypeId} {x y : Operand} {d : Nat} {agg : Bool} {size : Nat} {zero : List Value} {fs : List (Nat × Nat × Bool)} {ik : Option IntKind} {kk bytes : Nat} {agg2 : Bool} {zero2 : List Value} {fs2 : List (Nat × Nat × Bool)} {el2 : Option TypeId} {ik2 : Option IntKind} {kk2 bytes2 : Nat}
    (hti : ∀ t, TIok E.P t (ti t)) (hop : o.op = .call k) (hk : k.callee = .builtin .append) (ha : k.args.toList = [x, y]) (hty : k.argTypes.toList = [t, t])
    (hx : evalO T x = some (.v (i.val xs.length))) (hy : evalO T y = some (.v (j.val ys.length)))
    (ht : ti t = .mk agg size zero fs (some e) ik kk bytes) (hte : ti e = .mk agg2 sz zero2 fs2 el2 ik2 kk2 bytes2) (hz2 : listLen zero2 = sz) (hsz0 : 0 < sz) (hd : Dst E o d)
    (hF1 : IsAt F k1 (own i e enc sz xs)) (hF2 : ∀ w, (∀ f ∈ F, f.P w) → RdS w j sz (cells enc ys) ys.length)
    (hb : (xs.length + ys.length) * bytes2 ≤ 140737488355328) (hm : xs.length + ys.length ≤ maxLen)
    (hnext : ∀ y : Sl, next (.mk ((d, .v (y.val (xs ++ ys).length)) :: T) n (c + 1) B M (own y e enc sz (xs ++ ys) :: F.eraseIdx k1))) :
    OpW (opStop E o next T n c B M F) :=
  stop_app he k1 hti hop hk ha hty hx hy ht hte hz2 hsz0 hd hF1.h hF2 hb hm hnext

/-- append onto nil. -/
theorem stop_app0 {α : Type} {enc : α → List Value} {sz : Nat} (he : Enc enc sz) {ys : List α} {j : Sl} {k : Call} {t e : TypeId} {x y : Operand} {d : Nat} {agg : Bool} {size : Nat} {zero : List Value} {fs : List (Nat × Nat × Bool)} {ik : Option IntKind} {kk bytes : Nat} {agg2 : Bool} {zero2 : List Value} {fs2 : List (Nat × Nat × Bool)} {el2 : Option TypeId} {ik2 : Option IntKind} {kk2 bytes2 : Nat}
    (hti : ∀ t, TIok E.P t (ti t)) (hop : o.op = .call k) (hk : k.callee = .builtin .append) (ha : k.args.toList = [x, y]) (hty : k.argTypes.toList = [t, t])
    (hx : evalO T x = some (.v (.slice none 0 0))) (hy : evalO T y = some (.v (j.val ys.length)))
    (ht : ti t = .mk agg size zero fs (some e) ik kk bytes) (hte : ti e = .mk agg2 sz zero2 fs2 el2 ik2 kk2 bytes2) (hz2 : listLen zero2 = sz) (hsz0 : 0 < sz) (hd : Dst E o d)
    (hF2 : ∀ w, (∀ f ∈ F, f.P w) → RdS w j sz (cells enc ys) ys.length)
    (hb : ys.length * bytes2 ≤ 140737488355328) (hm : ys.length ≤ maxLen)
    (hnext : ∀ y : Sl, next (.mk ((d, .v (y.val ys.length)) :: T) n (c + 1) B M (own y e enc sz ys :: F))) :
    OpW (opStop E o next T n c B M F) := by
  refine ⟨fun A a w hW hT => ?_⟩
  have htt := hti t
  rw [ht] at htt
  obtain ⟨ii, dd, z, e1, e2, e3, e4, e5, e6, e7, e8, e9, e10, e11⟩ := tiSum_parts htt
  have htt2 := hti e
  rw [hte] at htt2
  obtain ⟨ii2, dd2, z2, g1, g2, g3, g4, g5, g6, g7, g8, g9, g10, g11⟩ := tiSum_parts htt2
  have hdd := el_slice e8
  have hown : w.ownsRow 0 e sz ((⟨none, 0⟩ : Sl).val 0) 0 [] := World.ownsRow_nil w 0 e sz
  have hrd := hF2 w (fun f hf => (hW.fct f hf).1)
  have hz : z2.cells.size = sz := by rw [← hz2, listLen_eq, ← g6]; simp
  obtain ⟨y', w', h1, h2, h3, h4⟩ := run_app (P := E.P) w o.type (by rw [e2, hdd]) g1 g5 g4 hz hsz0 hown hrd (cells_one he ys) (by rw [g11, Nat.zero_add]; exact hb) (by rw [Nat.zero_add]; exact hm)
  simp only [Nat.zero_add, List.nil_append] at h1 h2 h4
  have hr : (execOp a.eval o).run E.P w = .ok (.value (y'.val ys.length)) w' := by
    have hargs : k.args = #[x, y] := by apply Array.ext'; simpa using ha
    have htys : k.argTypes = #[t, t] := by apply Array.ext'; simpa using hty
    have hx' : a.eval x = (⟨none, 0⟩ : Sl).val 0 := (evalO_sound hT hx).1
    have hy' : a.eval y = j.val ys.length := (evalO_sound hT hy).1
    simp only [execOp, hop, resolve, hk, hargs, htys, Sem.run_bind, Sem.run_pure, Result.andThen_ok, invoke, builtin, List.map_toArray, List.map_cons, List.map_nil, hx', hy', h1]
  refine upon_of_value hr ?_
  rw [hd.1]
  refine ⟨_, ⟨_, ?_, (hT.step w').put (v := .v (y'.val ys.length)) hd.lt trivial⟩, hnext y'⟩
  have hex : Ext w w' := ExtX.grown h3 (fun g hg => by simp [Sl.val, Value.ownBlock] at hg)
  refine hW.learn hex (L := [own y' e enc sz ys]) ⟨fun f hf => ?_, List.pairwise_singleton _ _⟩
  simp only [List.mem_singleton] at hf
  subst hf
  refine ⟨h2, rfl, ?_⟩
  rintro b ⟨ad, q1, rfl⟩
  have hlt := (h2.lt ad.block (by simp [Sl.val, Value.ownBlock, q1])).2
  simp only [Sl.val, Value.ownBlock, q1] at h4
  rcases h4 with h4 | h4
  · simp at h4
  · simp at h4
    rw [h4] at hlt ⊢
    exact ⟨Nat.le_refl _, hlt⟩
end
end Go.Sx
