/- THE FRAMEWORK 'Sx', PART 14: functions that take a pointer to a variable; functions that return a pointer to a new one. No project text. -/
import Derived.Test.YtpopeaoklccgcaaSxm
namespace Go.Sx
open Go Go.RowKit

/-- The facts that stand at a world, none of them about block g. -/
def AtP (w : World) (g : Nat) : List Fct → Prop
  | [] => True
  | f :: r => (f.P w ∧ ∀ b, f.foot b → b < w.heap.size ∧ b ≠ g) ∧ AtP w g r
theorem AtP.at {w : World} {g : Nat} : ∀ {F : List Fct}, AtP w g F → At w F
  | [], _ => trivial
  | _ :: _, h => ⟨⟨h.1.1, fun b hb => (h.1.2 b hb).1⟩, AtP.at h.2⟩
theorem AtP.all {w : World} {g : Nat} : ∀ {F : List Fct}, AtP w g F → ∀ f ∈ F, ∀ b, f.foot b → b ≠ g
  | [], _, f, hf => by cases hf
  | _ :: _, h, f, hf => by
    rcases List.mem_cons.1 hf with rfl | hf
    · exact fun b hb => (h.1.2 b hb).2
    · exact AtP.all h.2 f hf

/-- Block g is the variable of type ty with these cells. -/
def Blk (w : World) (g : Nat) (ty : TypeId) (cs : List Value) : Prop := w.heap[g]? = some (.cells cs.toArray ty (0, 0))

/-- What a call returns that may write block g: the value, the block's cells, the new facts. -/
def RetP (w : World) (g : Nat) (ty : TypeId) (sz : Nat) (R : Value → List Value → List Fct → Prop) : Ending → World → Prop := fun e w' =>
  ∃ v cs L, e = .returned v ∧ ExtX (fun b => b = g) w w' ∧ Blk w' g ty cs ∧ cs.length = sz ∧ New w w' L ∧ R v cs L
/-- What a call returns that makes a variable: its cells, the new facts. -/
def RetN (w : World) (ty : TypeId) (sz : Nat) (R : List Value → List Fct → Prop) : Ending → World → Prop := fun e w' =>
  ∃ g cs L, e = .returned (.pointer (some ⟨g, 0, none⟩)) ∧ Ext w w' ∧ w.heap.size ≤ g ∧ g < w'.heap.size ∧ Blk w' g ty cs ∧ cs.length = sz ∧ New w w' L ∧ (∀ f ∈ L, ∀ b, f.foot b → b ≠ g) ∧ R cs L

abbrev mkEnvP (P : Program) (w : World) (N g : Nat) : Env := ⟨P, w, fun b => b = g, N, 1, fun _ => g⟩

theorem WD.initP (P : Program) (w : World) (N g : Nat) (ty : TypeId) (cs : List Value) {F : List Fct} (hg : Blk w g ty cs) (h : AtP w g F) (ho : initOk F) :
    WD (mkEnvP P w N g) (fun _ => g) 1 [(0, ty, cs.length)] (storeL 0 0 (cs.map .v) []) F w := by
  have hlt : g < w.heap.size := (Array.getElem?_eq_some_iff.1 hg).1
  refine ⟨?_, ?_, ?_, fun k hk => rfl, Nat.le_refl _, ExtX.refl _ _, fun f hf => ?_, ?_⟩
  · intro k ty' sz hk
    simp only [List.mem_singleton, Prod.mk.injEq] at hk
    obtain ⟨rfl, rfl, rfl⟩ := hk
    exact ⟨Nat.zero_lt_one, hlt, .inr rfl, _, hg, by simp⟩
  · intro k ty1 sz1 k' ty2 sz2 h1 h2 _
    simp only [List.mem_singleton, Prod.mk.injEq] at h1 h2
    rw [h1.1, h2.1]
  · intro k o v hv
    rw [lookM_storeL] at hv
    split at hv
    · rename_i hc
      obtain ⟨rfl, _, hc3⟩ := hc
      rw [Nat.sub_zero, List.getElem?_map] at hv
      cases hx : cs[o]? with
      | none => rw [hx] at hv; simp at hv
      | some u =>
        rw [hx] at hv; simp at hv; subst hv
        refine ⟨⟨ty, cs.length, by simp⟩, ?_, trivial⟩
        rw [cell_of_row _ _ _ _ _ _ hg]
        show cs.toArray[o]? = some u
        simpa using hx
    · simp [lookM] at hv
  · obtain ⟨h1, h2⟩ := At_all h.at f hf
    obtain ⟨h3, h4⟩ := initOk_all ho f hf
    exact ⟨h1, fun b hb => ⟨h2 b hb, fun k ty sz _ => (h.all f hf b hb).symm⟩, fun e => by rw [h4] at e; cases e⟩
  · rw [List.pairwise_iff_getElem]
    intro i j hi hj _ hor
    rw [(initOk_all ho _ (List.getElem_mem hi)).1, (initOk_all ho _ (List.getElem_mem hj)).1] at hor
    simp at hor

section
variable {P : Program} {f : FuncId} {fn : Func} {x : Code} {R : Ending → World → Prop} {ti : Nat → TI}
theorem callsP_fn (hf : P.funcs[f]? = some fn) (hb : fn.body = some x) (hti : ∀ t, TIok P t (ti t)) (w : World) (N : Nat) (hN : fn.ntmps = N) (rs : List ResultVar) (hrs : fn.results.toList = rs) (g : Nat) (ty : TypeId) (cs : List Value) (sz : Nat) (hsz : listLen cs = sz) (hg : Blk w g ty cs) (F : List Fct) (hF : AtP w g F) (ho : initOk F)
    (l : List Value) (hl : l.length + 1 ≤ N)
    (hv : vcCode (mkEnvP P w N g) ti x (bodyK (mkEnvP P w N g) ti rs R) (.mk (initT 0 (.p 0 0 :: l.map .v)) 1 0 [(0, ty, sz)] (storeL 0 0 (cs.map .v) []) F)) : Calls P f (.pointer (some ⟨g, 0, none⟩) :: l).toArray w R := by
  subst hN; subst hrs
  rw [listLen_eq] at hsz
  subst hsz
  exact calls_sx hf hb (mkEnvP P w fn.ntmps g) rfl rfl hti (.p 0 0 :: l.map .v) 1 [(0, ty, cs.length)] (storeL 0 0 (cs.map .v) []) F (A := fun _ => g) (by simp [show (SV.den (fun _ => g) ∘ SV.v) = id from rfl, SV.den, ptr])
    (fun s hs => by
      rcases List.mem_cons.1 hs with rfl | hs
      · exact Nat.zero_lt_one
      · obtain ⟨u, _, rfl⟩ := List.mem_map.1 hs; trivial) (by simpa using hl) (WD.initP P w _ _ _ _ hg hF ho) hv
variable (hf : P.funcs[f]? = some fn) (hb : fn.body = some x) (hti : ∀ t, TIok P t (ti t)) (w : World) (N : Nat) (hN : fn.ntmps = N) (rs : List ResultVar) (hrs : fn.results.toList = rs) (g : Nat) (ty : TypeId) (cs : List Value) (sz : Nat) (hsz : listLen cs = sz) (hg : Blk w g ty cs) (F : List Fct) (hF : AtP w g F) (ho : initOk F)
  include hf hb hti hN hrs hsz hg hF ho
theorem callsP1 (hl : 1 ≤ N) (hv : vcCode (mkEnvP P w N g) ti x (bodyK (mkEnvP P w N g) ti rs R) (.mk [(0, .p 0 0)] 1 0 [(0, ty, sz)] (storeL 0 0 (cs.map .v) []) F)) : Calls P f #[.pointer (some ⟨g, 0, none⟩)] w R :=
  callsP_fn hf hb hti w N hN rs hrs g ty cs sz hsz hg F hF ho [] hl hv
theorem callsP2 (a : Value) (hl : 2 ≤ N) (hv : vcCode (mkEnvP P w N g) ti x (bodyK (mkEnvP P w N g) ti rs R) (.mk [(0, .p 0 0), (1, .v a)] 1 0 [(0, ty, sz)] (storeL 0 0 (cs.map .v) []) F)) : Calls P f #[.pointer (some ⟨g, 0, none⟩), a] w R :=
  callsP_fn hf hb hti w N hN rs hrs g ty cs sz hsz hg F hF ho [a] hl hv
theorem callsP3 (a b : Value) (hl : 3 ≤ N) (hv : vcCode (mkEnvP P w N g) ti x (bodyK (mkEnvP P w N g) ti rs R) (.mk [(0, .p 0 0), (1, .v a), (2, .v b)] 1 0 [(0, ty, sz)] (storeL 0 0 (cs.map .v) []) F)) : Calls P f #[.pointer (some ⟨g, 0, none⟩), a, b] w R :=
  callsP_fn hf hb hti w N hN rs hrs g ty cs sz hsz hg F hF ho [a, b] hl hv
end

section
variable {E : Env} {ti : Nat → TI} {A : Nat → Nat} {T : List (Nat × SV)} {n c : Nat} {B : List (Nat × TypeId × Nat)} {M : List ((Nat × Nat) × SV)} {F Fs : List Fct} {o : Oper} {next : St → Prop} {a : Act} {w w' : World}

def lookBT : List (Nat × TypeId × Nat) → Nat → Option (TypeId × Nat)
  | [], _ => none
  | (k, t, sz) :: r, k' => match Nat.beq k k' with
    | true => some (t, sz)
    | false => lookBT r k'
theorem lookBT_mem : ∀ {B : List (Nat × TypeId × Nat)} {k t sz : Nat}, lookBT B k = some (t, sz) → (k, t, sz) ∈ B
  | [], _, _, _, h => by simp [lookBT] at h
  | (k, t, sz) :: r, k', t', sz', h => by
    simp only [lookBT] at h
    split at h
    · rename_i hb
      obtain rfl := Nat.eq_of_beq_eq_true hb
      simp at h
      obtain ⟨rfl, rfl⟩ := h
      simp
    · exact List.mem_cons_of_mem _ (lookBT_mem h)
/-- A block of which all cells are known. -/
theorem WD.blk (h : WD E A n B M F w) {k ty sz : Nat} {cs : List Value} (hB : (k, ty, sz) ∈ B) (hM : loadN M k 0 sz = some cs) : Blk w (A k) ty cs ∧ cs.length = sz := by
  obtain ⟨_, _, _, cs0, h4, h5⟩ := h.key k ty sz hB
  obtain ⟨g1, g2⟩ := loadN_spec (fun k o v hv => (h.mem k o v hv).2.1) hM
  refine ⟨?_, g1⟩
  unfold Blk
  rw [h4]
  congr 1
  have : cs0 = cs.toArray := by
    apply Array.ext
    · simp [h5, g1]
    · intro j h1 h2
      have := g2 j cs[j] (List.getElem?_eq_getElem (by simpa using h2))
      rw [cell_of_row _ _ _ _ _ _ h4, Nat.zero_add] at this
      obtain ⟨_, e⟩ := Array.getElem?_eq_some_iff.1 this
      simpa using e
  rw [this]
/-- Facts for a call that takes a pointer to block k. -/
theorem WD.offB (h : WD E A n B M F w) {k ty sz : Nat} (hB : lookBT B k = some (ty, sz)) {P : Fct} (i : Nat) (hi : F[i]? = some P) : ∀ b, P.foot b → b < w.heap.size ∧ b ≠ A k :=
  fun b hb => ⟨((h.fct _ (List.mem_of_getElem? hi)).2.1 b hb).1, fun e => ((h.fct _ (List.mem_of_getElem? hi)).2.1 b hb).2 k ty sz (lookBT_mem hB) e.symm⟩
theorem WD.rdP (h : WD E A n B M F w) (g : Nat) {k ty sz : Nat} (hg : g = A k) (hB : lookBT B k = some (ty, sz)) (j : Nat) {old o2 : Bool} {i : Sl} {s m : Nat} {cs : List Value} (hi : F[j]? = some (fSl old i s cs m)) :
    (fSl o2 i s cs m).P w ∧ ∀ b, (fSl o2 i s cs m).foot b → b < w.heap.size ∧ b ≠ g := by
  subst hg
  exact ⟨(h.nth j hi).1, fun b hb => h.offB hB j hi b hb⟩
theorem WD.rdOwnP (h : WD E A n B M F w) (g : Nat) {k ty sz : Nat} (hg : g = A k) (hB : lookBT B k = some (ty, sz)) (j : Nat) {old o2 : Bool} {i : Sl} {e s m : Nat} {cs : List Value} (hi : F[j]? = some (fOwn old i e s cs m)) :
    (fSl o2 i s cs m).P w ∧ ∀ b, (fSl o2 i s cs m).foot b → b < w.heap.size ∧ b ≠ g := by
  subst hg
  exact ⟨own_rd (h.nth j hi).1, fun b hb => h.offB hB j hi b hb.2⟩

/-- A call has written block k. -/
theorem WD.callP (h : WD E A n B M F w) {k ty sz : Nat} (hk : (k, ty, sz) ∈ B) {cs : List Value} (hex : ExtX (fun b => b = A k) w w') (hnew : Blk w' (A k) ty cs) (hl : cs.length = sz) {L : List Fct} (hL : New w w' L) :
    WD E A n B (storeL k 0 (cs.map .v) M) (L ++ F) w' := by
  obtain ⟨hk1, hk2, hk3, cs0, hk4, hk5⟩ := h.key k ty sz hk
  refine ⟨?_, h.inj, ?_, h.a0, h.n0, h.ext.trans' hex (fun i hi e => ?_), ?_, ?_⟩
  · intro k' ty' sz' hk'
    obtain ⟨g1, g2, g3, cs2, g4, g5⟩ := h.key k' ty' sz' hk'
    refine ⟨g1, Nat.lt_of_lt_of_le g2 hex.size, g3, ?_⟩
    by_cases e : A k' = A k
    · rw [e, hk4] at g4
      simp only [Option.some.injEq, Obj.cells.injEq] at g4
      obtain ⟨rfl, rfl, _⟩ := g4
      exact ⟨cs.toArray, by rw [e]; exact hnew, by simp; omega⟩
    · exact ⟨cs2, by rw [hex.block _ g2 e]; exact g4, g5⟩
  · intro k' o' v hv
    rw [lookM_storeL] at hv
    split at hv
    · rename_i hc
      obtain ⟨rfl, _, hc3⟩ := hc
      rw [Nat.sub_zero, List.getElem?_map] at hv
      cases hx : cs[o']? with
      | none => rw [hx] at hv; simp at hv
      | some u =>
        rw [hx] at hv; simp at hv; subst hv
        refine ⟨⟨ty, sz, hk⟩, ?_, trivial⟩
        rw [cell_of_row _ _ _ _ _ _ hnew]
        show cs.toArray[o']? = some u
        simpa using hx
    · rename_i hc
      obtain ⟨⟨ty', sz', hk'⟩, g2, g3⟩ := h.mem k' o' v hv
      refine ⟨⟨ty', sz', hk'⟩, ?_, g3⟩
      by_cases e : A k' = A k
      · have ek : k' = k := h.inj _ _ _ _ _ _ hk' hk e
        subst ek
        rw [cell_of_row _ _ _ _ _ _ hk4] at g2
        have : o' < cs0.size := (Array.getElem?_eq_some_iff.1 g2).1
        exact absurd ⟨rfl, Nat.zero_le _, by simp; omega⟩ hc
      · rw [← g2]
        exact World.cell?_of_block (hex.block _ (h.key _ _ _ hk').2.1 e)
  · subst e
    rcases hk3 with hk3 | hk3
    · omega
    · exact hk3
  · intro f hf
    rcases List.mem_append.1 hf with hf | hf
    · obtain ⟨h1, h2, h3⟩ := hL.all f hf
      refine ⟨h1, fun b hb => ⟨(h3 b hb).2, fun k ty sz hk e => ?_⟩, fun _ b hb => .inl (Nat.le_trans h.ext.size (h3 b hb).1)⟩
      have := (h.key k ty sz hk).2.1
      have := (h3 b hb).1
      omega
    · obtain ⟨g1, g2, g3⟩ := h.fct f hf
      exact ⟨Fct.keep g1 (fun b hb => (g2 b hb).1) hex (fun b hb e => (g2 b hb).2 k ty sz hk e.symm), fun b hb => ⟨Nat.lt_of_lt_of_le (g2 b hb).1 hex.size, (g2 b hb).2⟩, g3⟩
  · rw [List.pairwise_append]
    refine ⟨hL.dj, h.dj, fun f hf g hg _ b hb hb' => ?_⟩
    have := (hL.all f hf).2.2 b hb
    have := ((h.fct g hg).2.1 b hb').1
    omega
/-- A call has made a variable. -/
theorem WD.callN (h : WD E A n B M F w) {g ty sz : Nat} {cs : List Value} (hex : Ext w w') (hg1 : w.heap.size ≤ g) (hg2 : g < w'.heap.size) (hnew : Blk w' g ty cs) (hl : cs.length = sz) {L : List Fct} (hL : New w w' L) (hoff : ∀ f ∈ L, ∀ b, f.foot b → b ≠ g) :
    WD E (fun k => if k = n then g else A k) (n + 1) ((n, ty, sz) :: B) (storeL n 0 (cs.map .v) M) (L ++ F) w' := by
  have h' := h.learn hex hL
  have hold : ∀ k ty sz, (k, ty, sz) ∈ B → k ≠ n := fun k ty sz hk => by have := (h.key k ty sz hk).1; omega
  have hlt : ∀ k ty sz, (k, ty, sz) ∈ B → A k < w.heap.size := fun k ty sz hk => (h.key k ty sz hk).2.1
  refine ⟨?_, ?_, ?_, ?_, Nat.le_succ_of_le h.n0, h'.ext, ?_, h'.dj⟩
  · intro k ty' sz' hk
    rcases List.mem_cons.1 hk with hk | hk
    · simp only [Prod.mk.injEq] at hk
      obtain ⟨rfl, rfl, rfl⟩ := hk
      simp only [if_true]
      exact ⟨Nat.lt_succ_self _, hg2, .inl (Nat.le_trans h.ext.size hg1), _, hnew, by simpa using hl⟩
    · obtain ⟨h1, h2, h3, h4⟩ := h'.key k ty' sz' hk
      simp only [if_neg (hold k ty' sz' hk)]
      exact ⟨by omega, h2, h3, h4⟩
  · intro k ty1 sz1 k' ty2 sz2 hk hk' he
    rcases List.mem_cons.1 hk with hk | hk <;> rcases List.mem_cons.1 hk' with hk' | hk'
    · simp only [Prod.mk.injEq] at hk hk'; omega
    · simp only [Prod.mk.injEq] at hk
      simp only [hk.1, if_true, if_neg (hold _ _ _ hk')] at he
      have := hlt _ _ _ hk'
      omega
    · simp only [Prod.mk.injEq] at hk'
      simp only [hk'.1, if_true, if_neg (hold _ _ _ hk)] at he
      have := hlt _ _ _ hk
      omega
    · simp only [if_neg (hold _ _ _ hk), if_neg (hold _ _ _ hk')] at he
      exact h.inj _ _ _ _ _ _ hk hk' he
  · intro k o v hv
    rw [lookM_storeL] at hv
    split at hv
    · rename_i hc
      obtain ⟨rfl, _, hc3⟩ := hc
      rw [Nat.sub_zero, List.getElem?_map] at hv
      cases hx : cs[o]? with
      | none => rw [hx] at hv; simp at hv
      | some u =>
        rw [hx] at hv; simp at hv; subst hv
        refine ⟨⟨ty, sz, by simp⟩, ?_, trivial⟩
        simp only [if_true]
        rw [cell_of_row _ _ _ _ _ _ hnew]
        show cs.toArray[o]? = some u
        simpa using hx
    · obtain ⟨⟨ty', sz', hk⟩, h2, h3⟩ := h'.mem k o v hv
      refine ⟨⟨ty', sz', by simp [hk]⟩, ?_, SV.small_more h3 (Nat.le_succ _)⟩
      simp only [if_neg (hold _ _ _ hk)]
      rw [SV.den_upd (SV.small_okT (c := 0) (w := w) h3) _ _ (Nat.le_refl _), ← h2]
  · intro k hk
    have hk' := h.n0
    simp only [if_neg (show k ≠ n by omega)]
    exact h.a0 k hk
  · intro f hf
    obtain ⟨h1, h2, h3⟩ := h'.fct f hf
    refine ⟨h1, fun b hb => ⟨(h2 b hb).1, fun k ty' sz' hk => ?_⟩, h3⟩
    rcases List.mem_cons.1 hk with hk | hk
    · simp only [Prod.mk.injEq] at hk
      simp only [hk.1, if_true]
      rcases List.mem_append.1 hf with hf | hf
      · exact (hoff f hf b hb).symm
      · have := ((h.fct f hf).2.1 b hb).1
        omega
    · simp only [if_neg (hold _ _ _ hk)]
      exact (h2 b hb).2 k ty' sz' hk

theorem call_enter (hT : TD E A T n c a w) {k : Call} {fo : Operand} {g : FuncId} {cap : List (Nat × Nat)} {l : List SV} (hc : callable E.P g = true)
    (hop : o.op = .call k) (hk : k.callee = .value fo) (hf : evalO T fo = some (.f g cap)) (ha : evalOs T k.args.toList = some l) :
    (execOp a.eval o).run E.P w = .ok (.enter g ((l.map (SV.den A)) ++ cap.map (fun x => ptr A x.1 x.2)).toArray) w := by
  have hargs : (k.args.map a.eval).toList = l.map (SV.den A) := by rw [Array.toList_map]; exact evalOs_sound hT ha
  have hfv := (evalO_sound hT hf).1
  have hcat : (k.args.map a.eval) ++ (cap.map (fun x => ptr A x.1 x.2)).toArray = ((l.map (SV.den A)) ++ cap.map (fun x => ptr A x.1 x.2)).toArray := by
    apply Array.ext'; rw [Array.toList_append, hargs]
  simp only [execOp, hop, resolve, hk, Sem.run_bind, hfv, SV.den, Deferred.ofValue, Sem.run_pure, Result.andThen_ok, Array.empty_append, invoke, hcat, run_callFunc hc]

/-- A call of a function that takes a pointer to block kb. -/
theorem stop_callP (R : Value → List Value → List Fct → Prop) {k : Call} {fo : Operand} {g : FuncId} {cap : List (Nat × Nat)} {l : List SV} {d kb ty sz : Nat} {cs : List Value} (hc : callable E.P g = true)
    (hop : o.op = .call k) (hk : k.callee = .value fo) (hf : evalO T fo = some (.f g cap)) (ha : evalOs T k.args.toList = some (.p kb 0 :: l)) (hd : Dst E o d) (hB : lookBT B kb = some (ty, sz)) (hM : loadN M kb 0 sz = some cs)
    (hcall : ∀ A w ga, ga = A kb → WD E A n B M F w → Blk w ga ty cs → Calls E.P g (.pointer (some ⟨ga, 0, none⟩) :: ((l.map (SV.den A)) ++ cap.map (fun x => ptr A x.1 x.2))).toArray w (RetP w ga ty sz R))
    (hnext : ∀ v cs L, R v cs L → storeK kb 0 (cs.map .v) M fun M' => next (.mk ((d, .v v) :: T) n (c + 1) B M' (L ++ F))) :
    OpW (opStop E o next T n c B M F) := by
  refine ⟨fun A a w hW hT => ?_⟩
  unfold Oper.wp
  rw [call_enter hT hc hop hk hf ha, Oper.upon_enter]
  refine (hcall A w (A kb) rfl hW (hW.blk (lookBT_mem hB) hM).1).mono ?_
  rintro e w' ⟨v, cs', L, rfl, he, hb, hl, hL, hR⟩
  have hn := hnext v cs' L hR
  rw [storeK_eq] at hn
  refine ⟨_, ⟨_, hW.callP (lookBT_mem hB) he hb hl hL, ?_⟩, hn⟩
  rw [hd.1]
  exact (hT.step w').put (v := .v v) hd.lt trivial
theorem stop_callP0 (R : Value → List Value → List Fct → Prop) {k : Call} {fo : Operand} {g : FuncId} {cap : List (Nat × Nat)} {l : List SV} {kb ty sz : Nat} {cs : List Value} (hc : callable E.P g = true)
    (hop : o.op = .call k) (hk : k.callee = .value fo) (hf : evalO T fo = some (.f g cap)) (ha : evalOs T k.args.toList = some (.p kb 0 :: l)) (hd : o.dst = none) (hB : lookBT B kb = some (ty, sz)) (hM : loadN M kb 0 sz = some cs)
    (hcall : ∀ A w ga, ga = A kb → WD E A n B M F w → Blk w ga ty cs → Calls E.P g (.pointer (some ⟨ga, 0, none⟩) :: ((l.map (SV.den A)) ++ cap.map (fun x => ptr A x.1 x.2))).toArray w (RetP w ga ty sz R))
    (hnext : ∀ v cs L, R v cs L → storeK kb 0 (cs.map .v) M fun M' => next (.mk T n (c + 1) B M' (L ++ F))) :
    OpW (opStop E o next T n c B M F) := by
  refine ⟨fun A a w hW hT => ?_⟩
  unfold Oper.wp
  rw [call_enter hT hc hop hk hf ha, Oper.upon_enter]
  refine (hcall A w (A kb) rfl hW (hW.blk (lookBT_mem hB) hM).1).mono ?_
  rintro e w' ⟨v, cs', L, rfl, he, hb, hl, hL, hR⟩
  have hn := hnext v cs' L hR
  rw [storeK_eq] at hn
  refine ⟨_, ⟨_, hW.callP (lookBT_mem hB) he hb hl hL, ?_⟩, hn⟩
  rw [hd]
  exact hT.step w'
/-- A call of a function that makes a variable. -/
theorem stop_callN (R : List Value → List Fct → Prop) {k : Call} {fo : Operand} {g : FuncId} {cap : List (Nat × Nat)} {l : List SV} {d : Nat} (ty sz : Nat) (hc : callable E.P g = true)
    (hop : o.op = .call k) (hk : k.callee = .value fo) (hf : evalO T fo = some (.f g cap)) (ha : evalOs T k.args.toList = some l) (hd : Dst E o d)
    (hcall : ∀ A w, WD E A n B M F w → Calls E.P g ((l.map (SV.den A)) ++ cap.map (fun x => ptr A x.1 x.2)).toArray w (RetN w ty sz R))
    (hnext : ∀ cs L, R cs L → storeK n 0 (cs.map .v) M fun M' => next (.mk ((d, .p n 0) :: T) (n + 1) (c + 1) ((n, ty, sz) :: B) M' (L ++ F))) :
    OpW (opStop E o next T n c B M F) := by
  refine ⟨fun A a w hW hT => ?_⟩
  unfold Oper.wp
  rw [call_enter hT hc hop hk hf ha, Oper.upon_enter]
  refine (hcall A w hW).mono ?_
  rintro e w' ⟨q, cs', L, rfl, he, hq1, hq2, hb, hl, hL, hoff, hR⟩
  have hn := hnext cs' L hR
  rw [storeK_eq] at hn
  refine ⟨_, ⟨_, hW.callN he hq1 hq2 hb hl hL hoff, ?_⟩, hn⟩
  rw [hd.1]
  have := (hT.alloc q w').put (d := d) (v := .p n 0) hd.lt (Nat.lt_succ_self n)
  simpa [SV.den, ptr] using this
theorem keepM_store {Ms : List ((Nat × Nat) × SV)} {kb sz : Nat} {l : List SV} (h : keepM Ms M) (hno : noKey Ms kb 0 sz = true) (hl : l.length = sz) : keepM Ms (storeL kb 0 l M) := by
  intro k o v hv
  rw [lookM_storeL, if_neg ?_]
  · exact h k o v hv
  · have := noKey_ok hno k o v hv
    rw [hl]
    exact this
/-- The same in a region that draws. -/
theorem d_callP (R : Value → List Value → List Fct → Prop) {k : Call} {fo : Operand} {g : FuncId} {cap : List (Nat × Nat)} {l : List SV} {d kb ty sz : Nat} {cs : List Value} {Ms : List ((Nat × Nat) × SV)} (hc : callable E.P g = true)
    (hop : o.op = .call k) (hk : k.callee = .value fo) (hf : evalO T fo = some (.f g cap)) (ha : evalOs T k.args.toList = some (.p kb 0 :: l)) (hd : Dst E o d) (hB : lookBT B kb = some (ty, sz)) (hM : loadN M kb 0 sz = some cs) (hno : noKey Ms kb 0 sz = true)
    (hcall : ∀ A w ga, ga = A kb → WD E A n B M F w → Blk w ga ty cs → Calls E.P g (.pointer (some ⟨ga, 0, none⟩) :: ((l.map (SV.den A)) ++ cap.map (fun x => ptr A x.1 x.2))).toArray w (RetP w ga ty sz R))
    (hnext : ∀ v cs L, R v cs L → storeK kb 0 (cs.map .v) M fun M' => next (.mk ((d, .v v) :: T) n (c + 1) B M' (L ++ F))) :
    OpW (opD E o Ms Fs next T n c B M F) := by
  refine ⟨fun hkm hkf A a w hW hT => ?_⟩
  unfold Oper.wp
  rw [call_enter hT hc hop hk hf ha, Oper.upon_enter]
  refine (hcall A w (A kb) rfl hW (hW.blk (lookBT_mem hB) hM).1).mono ?_
  rintro e w' ⟨v, cs', L, rfl, he, hb, hl, hL, hR⟩
  have hn := hnext v cs' L hR
  rw [storeK_eq] at hn
  refine ⟨A, _, n, _, B, _, _, fun _ _ => rfl, Nat.le_refl _, fun _ h => h, keepM_store hkm hno (by simpa using hl), fun f hf => List.mem_append_right _ (hkf f hf), hW.callP (lookBT_mem hB) he hb hl hL, fun w2 => ?_, hn⟩
  rw [hd.1]
  exact (hT.step w2).put (v := .v v) hd.lt trivial
theorem d_callN (R : List Value → List Fct → Prop) {k : Call} {fo : Operand} {g : FuncId} {cap : List (Nat × Nat)} {l : List SV} {d : Nat} {Ms : List ((Nat × Nat) × SV)} (ty sz : Nat) (hc : callable E.P g = true)
    (hop : o.op = .call k) (hk : k.callee = .value fo) (hf : evalO T fo = some (.f g cap)) (ha : evalOs T k.args.toList = some l) (hd : Dst E o d) (hno : noKey Ms n 0 sz = true)
    (hcall : ∀ A w, WD E A n B M F w → Calls E.P g ((l.map (SV.den A)) ++ cap.map (fun x => ptr A x.1 x.2)).toArray w (RetN w ty sz R))
    (hnext : ∀ cs L, R cs L → storeK n 0 (cs.map .v) M fun M' => next (.mk ((d, .p n 0) :: T) (n + 1) (c + 1) ((n, ty, sz) :: B) M' (L ++ F))) :
    OpW (opD E o Ms Fs next T n c B M F) := by
  refine ⟨fun hkm hkf A a w hW hT => ?_⟩
  unfold Oper.wp
  rw [call_enter hT hc hop hk hf ha, Oper.upon_enter]
  refine (hcall A w hW).mono ?_
  rintro e w' ⟨q, cs', L, rfl, he, hq1, hq2, hb, hl, hL, hoff, hR⟩
  have hn := hnext cs' L hR
  rw [storeK_eq] at hn
  refine ⟨fun k => if k = n then q else A k, _, n + 1, _, _, _, _, fun k hk => if_neg (by omega), Nat.le_succ _, fun _ h => List.mem_cons_of_mem _ h, keepM_store hkm hno (by simpa using hl), fun f hf => List.mem_append_right _ (hkf f hf), hW.callN he hq1 hq2 hb hl hL hoff, fun w2 => ?_, hn⟩
  rw [hd.1]
  have := (hT.alloc q w2).put (d := d) (v := .p n 0) hd.lt (Nat.lt_succ_self n)
  simpa [SV.den, ptr] using this
end

/-- A return of a function that took a pointer. -/
theorem retP {P : Program} {w : World} {N g ty sz : Nat} {n : Nat} {B : List (Nat × TypeId × Nat)} {M : List ((Nat × Nat) × SV)} {F : List Fct} {R : Value → List Value → List Fct → Prop} {l : List SV} (ix : List Nat) {L : List Fct} {v : Value} {cs : List Value} (hR : R v cs L) (hB : lookBT B 0 = some (ty, sz)) (hM : loadN M 0 0 sz = some cs)
    (hF : FW F ix L) (hix : nodupB ix = true) (ho : freshOk L) (hv : ∀ A, resV A l = v) :
    RetW (∀ A w', WD (mkEnvP P w N g) A n B M F w' → RetP w g ty sz R (.returned (resV A l)) w') := by
  refine ⟨fun A w' h => ?_⟩
  rw [hv A]
  have hs := h.pick ix hF hix
  obtain ⟨hb, hl⟩ := h.blk (lookBT_mem hB) hM
  have ha : A 0 = g := h.a0 0 (by show 0 < 1; omega)
  rw [ha] at hb
  refine ⟨v, cs, L, rfl, h.ext, hb, hl, ⟨fun f hf => ?_, hs.dj⟩, hR⟩
  obtain ⟨h1, h2, h3⟩ := hs.fct f hf
  exact ⟨h1, freshOk_all ho f hf, fun b hb => ⟨(h3 (freshOk_all ho f hf) b hb).resolve_right (fun e => (h2 b hb).2 0 ty sz (lookBT_mem hB) (ha.trans e.symm)), (h2 b hb).1⟩⟩
/-- A return of a pointer to a new variable: block kb. -/
theorem retN {P : Program} {w : World} {N kb ty sz : Nat} {n : Nat} {B : List (Nat × TypeId × Nat)} {M : List ((Nat × Nat) × SV)} {F : List Fct} {R : List Value → List Fct → Prop} {l : List SV} (ix : List Nat) {L : List Fct} {cs : List Value} (hR : R cs L) (hl : l = [.p kb 0]) (hB : lookBT B kb = some (ty, sz)) (hM : loadN M kb 0 sz = some cs)
    (hF : FW F ix L) (hix : nodupB ix = true) (ho : freshOk L) :
    RetW (∀ A w', WD (mkEnv P w N) A n B M F w' → RetN w ty sz R (.returned (resV A l)) w') := by
  refine ⟨fun A w' h => ?_⟩
  subst hl
  have hs := h.pick ix hF hix
  obtain ⟨hb, hl⟩ := h.blk (lookBT_mem hB) hM
  obtain ⟨_, g2, g3, _⟩ := h.key kb ty sz (lookBT_mem hB)
  refine ⟨A kb, cs, L, rfl, h.ext, g3.resolve_right (fun h => h), g2, hb, hl, ⟨fun f hf => ?_, hs.dj⟩, fun f hf b hb => ?_, hR⟩
  · obtain ⟨h1, h2, h3⟩ := hs.fct f hf
    exact ⟨h1, freshOk_all ho f hf, fun b hb => ⟨(h3 (freshOk_all ho f hf) b hb).resolve_right (fun h => h), (h2 b hb).1⟩⟩
  · exact (((hs.fct f hf).2.1 b hb).2 kb ty sz (lookBT_mem hB)).symm
end Go.Sx
