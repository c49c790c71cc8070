/- THE FRAMEWORK 'Sx', PART 8: code, bodies, returns. No project text. -/
import Derived.Test.YtpopeaoklccgcaaSxg
namespace Go.Sx
open Go Go.RowKit

section
variable {E : Env} {ti : Nat → TI}

theorem vcOp_sound (hti : ∀ t, TIok E.P t (ti t)) {o : Oper} {next : St → Prop} {s : St} (hv : vcOp E ti o next s) {a : Act} {w : World} (hd : Den E s a w) {K : Act → World → Prop} {Q : Exit → Act → World → Prop} (hK : ∀ s a w, Den E s a w → next s → K a w) :
    o.wp E.P a w K Q := by
  obtain ⟨T, n, c, B, M, F⟩ := s
  obtain ⟨A, hW, hT⟩ := hd
  simp only [vcOp] at hv
  split at hv
  · rename_i sv hs
    obtain ⟨h1, h2⟩ := pureV_sound hti (fun k o v hv => (hW.mem k o v hv).2) hT hs
    refine upon_of_value h1 ?_
    split at hv
    · rename_i d hd
      split at hv
      · rename_i hdn
        rw [hd]
        exact hK _ _ _ ⟨A, hW, hT.put (by simpa using hdn) h2⟩ hv
      · exact hv.elim
    · rename_i hd
      rw [hd]
      exact hK _ _ _ ⟨A, hW, hT⟩ hv
  · exact vcEff_sound hti hv hW hT hK

theorem skip_sound {o : Oper} {next : St → Prop} {s : St} (hv : skipSt E o next s) {a : Act} {w : World} (hd : Den E s a w) {K : Act → World → Prop} (hK : ∀ s a w, Den E s a w → next s → K a w) : K (a.put o.dst undef) w := by
  obtain ⟨T, n, c, B, M, F⟩ := s
  obtain ⟨A, hW, hT⟩ := hd
  simp only [skipSt] at hv
  split at hv
  · rename_i d hd
    split at hv
    · rename_i hdn
      rw [hd]
      exact hK _ _ _ ⟨A, hW, hT.put (d := d) (v := .v undef) (by simpa using hdn) trivial⟩ hv
    · exact hv.elim
  · rename_i hd
    rw [hd]
    exact hK _ _ _ ⟨A, hW, hT⟩ hv

theorem gval_yield {A : Nat → Nat} {T : List (Nat × SV)} {n c : Nat} {a : Act} {w : World} (h : TD E A T n c a w) {ops : List Oper} {j t : Nat} {s : SV} {b : Bool} (hg : gval ops T j = some (t, s)) (hb : s.den A = .bool b) :
    yielded ops.toArray a.tmps j = some b ∧ look T t = some s := by
  unfold gval at hg
  split at hg
  · rename_i g hj
    split at hg
    · rename_i t' ht
      split at hg
      · rename_i s' hs
        simp at hg
        obtain ⟨rfl, rfl⟩ := hg
        refine ⟨?_, hs⟩
        have h1 := (h.tm _ _ hs).1
        rw [hb] at h1
        rw [nth_eq] at hj
        unfold yielded
        have hopt : a.tmps[t']? = some (.bool b) := by
          cases hx : a.tmps[t']? with
          | none => rw [Array.getD_eq_getD_getElem?, hx] at h1; simp [undef] at h1
          | some y => rw [Array.getD_eq_getD_getElem?, hx] at h1; simp at h1; rw [h1]
        simp [hj, ht, hopt]
      · cases hg
    · cases hg
  · cases hg

theorem gval_none {A : Nat → Nat} {T : List (Nat × SV)} {n c : Nat} {a : Act} {w : World} (h : TD E A T n c a w) {ops : List Oper} {j t : Nat} {s : SV} {xs : Array Value} (hg : gval ops T j = some (t, s)) (hb : s.den A = .tuple xs) :
    yielded ops.toArray a.tmps j = none := by
  unfold gval at hg
  split at hg
  · rename_i g hj
    split at hg
    · rename_i t' ht
      split at hg
      · rename_i s' hs
        simp at hg
        obtain ⟨rfl, rfl⟩ := hg
        have h1 := (h.tm _ _ hs).1
        rw [hb] at h1
        rw [nth_eq] at hj
        unfold yielded
        cases hx : a.tmps[t']? with
        | none => simp [hj, ht, hx]
        | some y => rw [Array.getD_eq_getD_getElem?, hx] at h1; simp at h1; subst h1; simp [hj, ht, hx]
      · cases hg
    · cases hg
  · cases hg

theorem vcOps_sound (hti : ∀ t, TIok E.P t (ti t)) (ops : List Oper) {K : St → Prop} {Q : Exit → Act → World → Prop} (hK : ∀ s a w, Den E s a w → K s → Q .normal a w) :
    ∀ (rest : List Oper) (s : St) (a : Act) (w : World), vcOps E ti ops K rest s → Den E s a w → wpList E.P ops.toArray Q rest a w
  | [], s, a, w, hv, hd => hK s a w hd hv
  | o :: r, s, a, w, hv, hd => by
    have ih : ∀ s a w, Den E s a w → vcOps E ti ops K r s → wpList E.P ops.toArray Q r a w := fun s a w h1 h2 => vcOps_sound hti ops hK r s a w h2 h1
    have go : ∀ s, Den E s a w → vcOp E ti o (vcOps E ti ops K r) s → Region.wanted o (yielded ops.toArray a.tmps) = true → wpList E.P ops.toArray Q (o :: r) a w := by
      intro s h1 h2 h3
      unfold wpList
      rw [if_pos h3]
      exact .inl (vcOp_sound hti h2 h1 ih)
    have sk : ∀ s, Den E s a w → skipSt E o (vcOps E ti ops K r) s → Region.wanted o (yielded ops.toArray a.tmps) = false → wpList E.P ops.toArray Q (o :: r) a w := by
      intro s h1 h2 h3
      unfold wpList
      rw [if_neg (by simp [h3])]
      exact skip_sound h2 h1 ih
    obtain ⟨T, n, c, B, M, F⟩ := s
    simp only [vcOps] at hv
    split at hv
    · rename_i hg
      exact go _ hd hv (by simp [Region.wanted, hg])
    · rename_i j want hg
      split at hv
      · rename_i t b hgv
        obtain ⟨A, hW, hT⟩ := hd
        have hy := (gval_yield hT hgv (b := b) rfl).1
        have hd : Den E (.mk T n c B M F) a w := ⟨A, hW, hT⟩
        split at hv
        · exact go _ hd hv (by simp [Region.wanted, hg, hy])
        · exact go _ hd hv (by simp [Region.wanted, hg, hy])
        · exact sk _ hd hv (by simp [Region.wanted, hg, hy])
        · exact sk _ hd hv (by simp [Region.wanted, hg, hy])
      · rename_i t b hgv
        obtain ⟨A, hW, hT⟩ := hd
        obtain ⟨hy, hl⟩ := gval_yield hT hgv (b := b) rfl
        have hd : Den E (.mk ((t, .lit b) :: T) n c B M F) a w := ⟨A, hW, hT.lit hl⟩
        split at hv
        · cases b with
          | true => exact go _ hd (hv.t rfl) (by simp [Region.wanted, hg, hy])
          | false => exact sk _ hd (hv.f rfl) (by simp [Region.wanted, hg, hy])
        · cases b with
          | true => exact sk _ hd (hv.t rfl) (by simp [Region.wanted, hg, hy])
          | false => exact go _ hd (hv.f rfl) (by simp [Region.wanted, hg, hy])
      · rename_i t xs hgv
        obtain ⟨A, hW, hT⟩ := hd
        have hy := gval_none hT hgv (xs := xs) rfl
        exact sk _ ⟨A, hW, hT⟩ hv (by simp [Region.wanted, hg, hy])
      · exact hv.elim

theorem vcCode_sound (hti : ∀ t, TIok E.P t (ti t)) : ∀ (x : Code) (K : Exit → St → Prop) (s : St), vcCode E ti x K s → ∀ (Q : Exit → Act → World → Prop), (∀ e s a w, Den E s a w → K e s → Q e a w) → ∀ a w, Den E s a w → x.wp E.P Q a w := by
  intro x
  induction x with
  | skip => intro K s hv Q hK a w hd; exact wp_skip (hK _ _ _ _ hd hv)
  | region id ops draw =>
    intro K s hv Q hK a w hd
    cases draw with
    | false =>
      simp only [vcCode] at hv
      refine wp_region_list ?_
      have := vcOps_sound hti ops.toList (Q := Q) (fun s a w h1 h2 => hK .normal s a w h1 h2) ops.toList s a w hv hd
      simpa using this
    | true =>
      simp only [vcCode] at hv
      refine wp_mono (hv.out a w hd) ?_
      intro e a' w' h
      cases e <;> simp only [postD] at h
      obtain ⟨s', h1, h2⟩ := h
      exact hK _ _ _ _ h1 h2
  | seq x y ihx ihy =>
    intro K s hv Q hK a w hd
    simp only [vcCode] at hv
    refine wp_seq (ihx _ s hv _ ?_ a w hd)
    intro e s' a' w' h1 h2
    cases e with
    | normal => exact ihy K s' h2 Q hK a' w' h1
    | _ => exact hK _ _ _ _ h1 h2
  | cond c y z ihy ihz =>
    intro K s hv Q hK a w hd
    obtain ⟨T, n, cc, B, M, F⟩ := s
    simp only [vcCode] at hv
    obtain ⟨A, hW, hT⟩ := hd
    have hd : Den E (.mk T n cc B M F) a w := ⟨A, hW, hT⟩
    split at hv
    · rename_i hc
      exact wp_cond_true (evalO_sound hT hc).1 (ihy K _ hv Q hK a w hd)
    · rename_i hc
      exact wp_cond_false (evalO_sound hT hc).1 (ihz K _ hv Q hK a w hd)
    · rename_i b hc
      have he := (evalO_sound hT hc).1
      cases b with
      | true => exact wp_cond_true he (ihy K _ (hv.t rfl) Q hK a w hd)
      | false => exact wp_cond_false he (ihz K _ (hv.f rfl) Q hK a w hd)
    · exact hv.elim
  | block id x ih =>
    intro K s hv Q hK a w hd
    simp only [vcCode] at hv
    refine wp_block (ih _ s hv _ ?_ a w hd)
    intro e s' a' w' h1 h2
    cases e with
    | exit id' =>
      simp only at h2
      simp only [Exit.inBlock]
      split at h2
      · rename_i he
        rw [if_pos (Nat.eq_of_beq_eq_true he)]
        exact hK _ _ _ _ h1 h2
      · rename_i he
        rw [if_neg (by intro e; subst e; rw [Nat.beq_refl] at he; cases he)]
        exact hK _ _ _ _ h1 h2
    | _ => exact hK _ _ _ _ h1 h2
  | loop x ih =>
    intro K s hv Q hK a w hd
    simp only [vcCode] at hv
    obtain ⟨⟨Y, S, m, y0, h0, hr⟩⟩ := hv
    refine wp_loop_ghost (fun k a w => ∃ y, m y = k ∧ Den E (S y) a w) (m y0) ⟨y0, rfl, h0 a w hd⟩ ?_
    rintro k a w ⟨y, rfl, hy⟩
    refine ih _ (S y) (hr y) _ ?_ a w hy
    intro e s' a' w' h1 h2
    cases e with
    | normal =>
      obtain ⟨y', g1, g2⟩ := h2
      exact ⟨m y', g2, y', rfl, g1 a' w' h1⟩
    | _ => exact hK _ _ _ _ h1 h2
  | exit id => intro K s hv Q hK a w hd; exact wp_exit (hK _ _ _ _ hd hv)
  | ret => intro K s hv Q hK a w hd; exact wp_ret (hK _ _ _ _ hd hv)
  | _ => intro K s hv; exact hv.elim

/-- What the results' slots hold. -/
def resL (ti : Nat → TI) (T : List (Nat × SV)) (M : List ((Nat × Nat) × SV)) (c : Nat) : List ResultVar → Option (List SV)
  | [] => some []
  | .tmp t :: r => match look T t with
    | some s => (match resL ti T M c r with
      | some l => some (s :: l)
      | none => none)
    | none => none
  | .cell t ty :: r => match pLoad (ti ty) T c M (.tmp t) with
    | some s => (match resL ti T M c r with
      | some l => some (s :: l)
      | none => none)
    | none => none
def resV (A : Nat → Nat) : List SV → Value
  | [] => .tuple #[]
  | [s] => s.den A
  | l => .tuple (l.map (SV.den A)).toArray
def vcRet (E : Env) (ti : Nat → TI) (rs : List ResultVar) (R : Ending → World → Prop) : St → Prop
  | .mk T n c B M F => match resL ti T M c rs with
    | some l => RetW (∀ A w, WD E A n B M F w → R (.returned (resV A l)) w)
    | none => False
def bodyK (E : Env) (ti : Nat → TI) (rs : List ResultVar) (R : Ending → World → Prop) : Exit → St → Prop := fun e s => match e with
  | .ret => vcRet E ti rs R s
  | .normal => vcRet E ti rs R s
  | _ => False

theorem run_results {A : Nat → Nat} {T : List (Nat × SV)} {n c : Nat} {B : List (Nat × TypeId × Nat)} {M : List ((Nat × Nat) × SV)} {F : List Fct} {a : Act} {w : World} (hti : ∀ t, TIok E.P t (ti t)) (hW : WD E A n B M F w) (hT : TD E A T n c a w) :
    ∀ {rs : List ResultVar} {l : List SV}, resL ti T M c rs = some l → (rs.mapM (fun
      | .tmp t => pure (a.tmps.getD t undef)
      | .cell addr type => do loadVar type (← asAddr (a.tmps.getD addr undef)) : ResultVar → Sem Value)).run E.P w = .ok (l.map (SV.den A)) w
  | [], l, h => by simp [resL] at h; subst h; simp
  | .tmp t :: r, l, h => by
    simp only [resL] at h
    split at h
    · rename_i s hs
      split at h
      · rename_i l' hl
        simp at h; subst h
        have ih := run_results hti hW hT hl
        simp only [List.mapM_cons, Sem.run_bind, Sem.run_pure, Result.andThen_ok, ih, (hT.tm t s hs).1, List.map_cons]
      · cases h
    · cases h
  | .cell t ty :: r, l, h => by
    simp only [resL] at h
    split at h
    · rename_i s hs
      split at h
      · rename_i l' hl
        simp at h; subst h
        have ih := run_results hti hW hT hl
        have hld := (pLoad_sound hti (fun k o v hv => (hW.mem k o v hv).2) hT hs { (default : Oper) with op := .load ty (.tmp t) } rfl).1
        simp only [execOp, Instr.loadAt, Act.eval, Sem.run_bind, Sem.run_pure] at hld
        have hld' : ∀ v, a.tmps.getD t undef = v → ((Instr.sureAddr v).run E.P w).andThen (fun ad w' => (loadVar ty ad).run E.P w') = .ok (s.den A) w := by
          intro v hv
          rw [hv] at hld
          cases h1 : (Instr.sureAddr v).run E.P w with
          | ok ad w1 =>
            rw [h1] at hld
            simp only [Result.andThen_ok] at hld ⊢
            cases h2 : (loadVar ty ad).run E.P w1 with
            | ok x w2 => rw [h2] at hld; simp at hld; rw [hld.1, hld.2]
            | halt x w2 => rw [h2] at hld; simp at hld
          | halt x w1 => rw [h1] at hld; simp at hld
        have hld2 := hld' _ rfl
        have hasa : ((asAddr (a.tmps.getD t undef)).run E.P w).andThen (fun ad w' => (loadVar ty ad).run E.P w') = .ok (s.den A) w := by
          revert hld2
          generalize a.tmps.getD t undef = v
          intro hld2
          cases v with
          | pointer p =>
            cases p with
            | none => simp [Instr.sureAddr] at hld2
            | some ad => exact hld2
          | _ => simp [Instr.sureAddr] at hld2
        simp only [List.mapM_cons, Sem.run_bind, Sem.run_pure, List.map_cons]
        cases h1 : (asAddr (a.tmps.getD t undef)).run E.P w with
        | ok ad w1 =>
          rw [h1] at hasa
          simp only [Result.andThen_ok] at hasa ⊢
          rw [hasa]
          simp only [Result.andThen_ok, ih]
        | halt x w1 => rw [h1] at hasa; simp at hasa
      · cases h
    · cases h
theorem run_res {A : Nat → Nat} {T : List (Nat × SV)} {n c : Nat} {B : List (Nat × TypeId × Nat)} {M : List ((Nat × Nat) × SV)} {F : List Fct} {a : Act} {w : World} (hti : ∀ t, TIok E.P t (ti t)) (hW : WD E A n B M F w) (hT : TD E A T n c a w) {fn : Func} {l : List SV} (h : resL ti T M c fn.results.toList = some l) :
    (results fn a.tmps).run E.P w = .ok (resV A l) w := by
  have h1 := run_results hti hW hT h
  unfold results
  rw [← Array.toArray_toList (xs := fn.results), List.mapM_toArray]
  simp only [Sem.run_bind, Sem.run_map, Sem.run_pure]
  refine (congrArg (fun r => (Result.andThen (Result.andThen r fun a w' => .ok a.toArray w') fun (vs : Array Value) w' => Result.ok (if h : vs.size = 1 then vs[0] else Value.tuple vs) w')) h1).trans ?_
  simp only [Result.andThen_ok]
  congr 1
  cases l with
  | nil => simp [resV]
  | cons x r => cases r <;> simp [resV]

/-- The slots at a body's beginning. -/
def initT : Nat → List SV → List (Nat × SV)
  | _, [] => []
  | k, s :: r => (k, s) :: initT (k + 1) r
theorem look_initT : ∀ (l : List SV) (k t : Nat) (s : SV), look (initT k l) t = some s → k ≤ t ∧ l[t - k]? = some s
  | [], k, t, s, h => by simp [initT, look] at h
  | x :: r, k, t, s, h => by
    simp only [initT] at h
    rw [look_cons] at h
    by_cases e : k = t
    · subst e; simp at h; subst h; simp
    · simp [e] at h
      obtain ⟨h1, h2⟩ := look_initT r (k + 1) t s h
      exact ⟨by omega, by rw [show t - k = (t - (k + 1)) + 1 by omega, List.getElem?_cons_succ]; exact h2⟩

/-- A function's contract by its body's verification condition. -/
theorem calls_sx {P : Program} {f : FuncId} {fn : Func} {x : Code} {R : Ending → World → Prop} (hf : P.funcs[f]? = some fn) (hb : fn.body = some x)
    (E : Env) (hP : E.P = P) (hN : E.N = fn.ntmps) (hti : ∀ t, TIok E.P t (ti t)) (l : List SV) (n : Nat) (B : List (Nat × TypeId × Nat)) (M : List ((Nat × Nat) × SV)) (F : List Fct) {A : Nat → Nat} {args : Array Value} (hargs : args.toList = l.map (SV.den A)) (hl : ∀ s ∈ l, s.okT n 0 E.w0) (hlN : l.length ≤ fn.ntmps)
    (hW : WD E A n B M F E.w0)
    (hv : vcCode E ti x (bodyK E ti fn.results.toList R) (.mk (initT 0 l) n 0 B M F)) : Calls P f args E.w0 R := by
  subst hP
  refine calls_of_wp hf hb ?_
  refine vcCode_sound hti x _ _ hv _ ?_ _ _ ⟨A, hW, ?_, rfl, ?_⟩
  · intro e s a w hd hk
    obtain ⟨T, n, c, B, M, F⟩ := s
    obtain ⟨A, hW, hT⟩ := hd
    have key : vcRet E ti fn.results.toList R (.mk T n c B M F) → a.defers = [] ∧ ∃ v, (results fn a.tmps).run E.P w = .ok v w ∧ R (.returned v) w := by
      intro h
      simp only [vcRet] at h
      split at h
      · rename_i l hl
        exact ⟨hT.defers, _, run_res hti hW hT hl, h.out A w hW⟩
      · exact h.elim
    cases e with
    | normal => exact key hk
    | ret => exact key hk
    | _ => exact (hk : False).elim
  · have : args.size = l.length := by rw [← Array.length_toList, hargs, List.length_map]
    simp [this, hN]; omega
  · intro t s hs
    obtain ⟨_, h2⟩ := look_initT l 0 t s hs
    simp only [Nat.sub_zero] at h2
    refine ⟨?_, hl s (List.mem_of_getElem? h2)⟩
    have hsz : args.size = l.length := by rw [← Array.length_toList, hargs, List.length_map]
    have hlt : t < l.length := (List.getElem?_eq_some_iff.1 h2).1
    have h3 : args[t]? = some (s.den A) := by
      rw [← Array.getElem?_toList, hargs, List.getElem?_map, h2]; rfl
    rw [Array.getD_eq_getD_getElem?, Array.getElem?_append_left (by omega), h3]
    rfl
end
end Go.Sx
