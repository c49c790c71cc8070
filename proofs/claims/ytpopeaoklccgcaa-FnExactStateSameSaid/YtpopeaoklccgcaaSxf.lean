/- THE FRAMEWORK 'Sx', PART 6: the verification condition of a piece of code, by computation; and that it is enough. No project text. -/
import Derived.Test.YtpopeaoklccgcaaSxe
namespace Go.Sx
open Go Go.RowKit

/-- Both values of a bool. -/
structure CaseB (b : Bool) (X Y : Prop) : Prop where
  t : b = true → X
  f : b = false → Y
structure AllSl (p : Sl → Prop) : Prop where
  out : ∀ y, p y
/-- An operation that asks for a law. -/
structure OpW (p : Prop) : Prop where
  out : p
theorem opw {p : Prop} (h : OpW p) : OpW p := h
structure LoopW (p : Prop) : Prop where
  out : p
structure DrawW (p : Prop) : Prop where
  out : p
structure RetW (p : Prop) : Prop where
  out : p

def opStop (E : Env) (o : Oper) (next : St → Prop) (T : List (Nat × SV)) (n c : Nat) (B : List (Nat × TypeId × Nat)) (M : List ((Nat × Nat) × SV)) (F : List Fct) : Prop :=
  ∀ A a w, WD E A n B M F w → TD E A T n c a w → o.wp E.P a w (fun a' w' => ∃ s', Den E s' a' w' ∧ next s') (fun _ _ _ => False)

def bParts (T : List (Nat × SV)) (esz : Nat) : Nat → List (Nat × Operand) → Option (List Value)
  | _, [] => some []
  | i, (j, x) :: r => match Nat.beq i j with
    | true => (match evalV T x with
      | some u => (match valCells u with
        | some l => (match Nat.beq l.length esz with
          | true => (match bParts T esz (i + 1) r with
            | some q => some (l ++ q)
            | none => none)
          | false => none)
        | none => none)
      | none => none)
    | false => none
def listLen {α : Type} : List α → Nat
  | [] => 0
  | _ :: r => Nat.succ (listLen r)
theorem listLen_eq {α : Type} (l : List α) : listLen l = l.length := by
  induction l with
  | nil => rfl
  | cons x r ih => simp [listLen, ih]

def vcEff (E : Env) (ti : Nat → TI) (o : Oper) (next : St → Prop) (T : List (Nat × SV)) (n c : Nat) (B : List (Nat × TypeId × Nat)) (M : List ((Nat × Nat) × SV)) (F : List Fct) : Op → Prop
  | .alloc t => (match ti t with
    | .mk _ sz zero _ _ _ _ _ => (match o.dst with
      | some d => (match Nat.blt d E.N with
        | true => (match Nat.beq (listLen zero) sz with
          | true => storeK n 0 (zero.map .v) M fun M' => next (.mk ((d, .p n 0) :: T) (n + 1) (c + 1) ((n, t, sz) :: B) M' F)
          | false => False)
        | false => False)
      | none => False)
    | .none => False)
  | .box t x => (match o.dst with
    | some d => (match Nat.blt d E.N with
      | true => (match evalO T x with
        | some s => (match cellsSV s with
          | some l => storeK n 0 l M fun M' => next (.mk ((d, .p n 0) :: T) (n + 1) (c + 1) ((n, t, listLen l) :: B) M' F)
          | none => False)
        | none => False)
      | false => False)
    | none => False)
  | .store t x y => (match o.dst with
    | some _ => False
    | none => (match evalO T x with
      | some (.p k off) => (match ti t with
        | .mk _ sz _ _ _ _ _ _ => (match evalO T y with
          | some s => (match cellsSV s with
            | some l => (match Nat.beq (listLen l) sz with
              | true => (match lookB B k with
                | some bsz => (match Nat.ble (off + sz) bsz with
                  | true => storeK k off l M fun M' => next (.mk T n (c + 1) B M' F)
                  | false => False)
                | none => False)
              | false => False)
            | none => False)
          | none => False)
        | .none => False)
      | _ => OpW (opStop E o next T n c B M F)))
  | .pick x y z => (match x with
    | .tmp t => (match look T t with
      | some (.v (.bool b)) => (match o.dst with
        | some d => (match Nat.blt d E.N with
          | true => CaseB b (match evalO ((t, .lit true) :: T) y with
              | some s => next (.mk ((d, s) :: (t, .lit true) :: T) n c B M F)
              | none => False) (match evalO ((t, .lit false) :: T) z with
              | some s => next (.mk ((d, s) :: (t, .lit false) :: T) n c B M F)
              | none => False)
          | false => False)
        | none => False)
      | _ => False)
    | _ => False)
  | .buildSlice t len ps => (match ti t with
    | .mk _ _ _ _ (some e) _ _ _ => (match ti e with
      | .mk _ esz _ _ _ _ _ _ => (match o.dst with
        | some d => (match Nat.blt d E.N with
          | true => (match Nat.beq (listLen ps.toList) len with
            | true => (match Nat.ble (len * esz + len) 16777216 with
              | true => (match bParts T esz 0 ps.toList with
                | some cs => AllSl fun y => next (.mk ((d, .v (y.val len)) :: T) n (c + 1) B M (fOwn false y e esz cs len :: F))
                | none => False)
              | false => False)
            | false => False)
          | false => False)
        | none => False)
      | .none => False)
    | _ => False)
  | _ => OpW (opStop E o next T n c B M F)

def vcOp (E : Env) (ti : Nat → TI) (o : Oper) (next : St → Prop) : St → Prop
  | .mk T n c B M F => match pureV ti T c M o.op with
    | some s => (match o.dst with
      | some d => (match Nat.blt d E.N with
        | true => next (.mk ((d, s) :: T) n c B M F)
        | false => False)
      | none => next (.mk T n c B M F))
    | none => vcEff E ti o next T n c B M F o.op

/-- The slot of a guard, and what is known of it. -/
def gval (ops : List Oper) (T : List (Nat × SV)) (j : Nat) : Option (Nat × SV) :=
  match nth ops j with
  | some g => (match g.dst with
    | some t => (match look T t with
      | some s => some (t, s)
      | none => none)
    | none => none)
  | none => none
def skipSt (E : Env) (o : Oper) (next : St → Prop) : St → Prop
  | .mk T n c B M F => match o.dst with
    | some d => (match Nat.blt d E.N with
      | true => next (.mk ((d, .v undef) :: T) n c B M F)
      | false => False)
    | none => next (.mk T n c B M F)
def vcOps (E : Env) (ti : Nat → TI) (ops : List Oper) (K : St → Prop) : List Oper → St → Prop
  | [], s => K s
  | o :: r, s => match o.guard with
    | none => vcOp E ti o (vcOps E ti ops K r) s
    | some (j, want) => (match s with
      | .mk T n c B M F => (match gval ops T j with
        | some (_, .lit b) => (match b, want with
          | true, true => vcOp E ti o (vcOps E ti ops K r) (.mk T n c B M F)
          | false, false => vcOp E ti o (vcOps E ti ops K r) (.mk T n c B M F)
          | true, false => skipSt E o (vcOps E ti ops K r) (.mk T n c B M F)
          | false, true => skipSt E o (vcOps E ti ops K r) (.mk T n c B M F))
        | some (t, .v (.bool b)) => (match want with
          | true => CaseB b (vcOp E ti o (vcOps E ti ops K r) (.mk ((t, .lit true) :: T) n c B M F)) (skipSt E o (vcOps E ti ops K r) (.mk ((t, .lit false) :: T) n c B M F))
          | false => CaseB b (skipSt E o (vcOps E ti ops K r) (.mk ((t, .lit true) :: T) n c B M F)) (vcOp E ti o (vcOps E ti ops K r) (.mk ((t, .lit false) :: T) n c B M F)))
        | some (_, .v (.tuple _)) => skipSt E o (vcOps E ti ops K r) (.mk T n c B M F)
        | _ => False))

def postD (E : Env) (K : St → Prop) : Exit → Act → World → Prop := fun e a' w' => match e with
  | .normal => ∃ s', Den E s' a' w' ∧ K s'
  | _ => False

def vcCode (E : Env) (ti : Nat → TI) : Code → (Exit → St → Prop) → St → Prop
  | .skip, K, s => K .normal s
  | .region _ ops false, K, s => vcOps E ti ops.toList (K .normal) ops.toList s
  | .region id ops true, K, s => DrawW (∀ a w, Den E s a w → (Code.region id ops true).wp E.P (postD E (K .normal)) a w)
  | .seq x y, K, s => vcCode E ti x (fun e s' => match e with
      | .normal => vcCode E ti y K s'
      | e => K e s') s
  | .cond x y z, K, s => (match s with
    | .mk T n c B M F => (match evalO T x with
      | some (.lit true) => vcCode E ti y K (.mk T n c B M F)
      | some (.lit false) => vcCode E ti z K (.mk T n c B M F)
      | some (.v (.bool b)) => CaseB b (vcCode E ti y K (.mk T n c B M F)) (vcCode E ti z K (.mk T n c B M F))
      | _ => False))
  | .block id x, K, s => vcCode E ti x (fun e s' => match e with
      | .exit id' => (match Nat.beq id' id with
        | true => K .normal s'
        | false => K (.exit id') s')
      | e => K e s') s
  | .exit id, K, s => K (.exit id) s
  | .ret, K, s => K .ret s
  | .loop x, K, s => LoopW (∃ (Y : Type) (S : Y → St) (m : Y → Nat) (y0 : Y), Weak E s (S y0) ∧ ∀ y, vcCode E ti x (fun e s' => match e with
      | .normal => ∃ y', Weak E s' (S y') ∧ m y' < m y
      | e => K e s') (S y))
  | _, _, _ => False

section
variable {E : Env} {ti : Nat → TI}

theorem Oper.wp_weak {P : Program} {o : Oper} {a : Act} {w : World} {K K' : Act → World → Prop} {Q : Exit → Act → World → Prop} (h : ∀ a w, K a w → K' a w) (hh : o.wp P a w K (fun _ _ _ => False)) : o.wp P a w K' Q := by
  unfold Oper.wp at *
  generalize (execOp a.eval o).run P w = r at *
  have hL : ¬ LetsOut (fun (_ : Exit) (_ : Act) (_ : World) => False) := fun ⟨_, _, h⟩ => h
  cases r with
  | ok n w' =>
    cases n <;> simp only [Oper.upon] at hh ⊢ <;>
      first
        | exact h _ _ hh
        | exact Calls.mono hh (fun e w'' he => by cases e <;> first | exact h _ _ he | exact (he : False).elim | exact (hL he).elim)
        | exact Rows.mono hh (fun _ _ he => h _ _ he)
  | halt x w' => cases x <;> simp only [Oper.upon] at hh

theorem upon_of_value {P : Program} {o : Oper} {a : Act} {w w' : World} {K : Act → World → Prop} {Q : Exit → Act → World → Prop} {v : Value} (hr : (execOp a.eval o).run P w = .ok (.value v) w') (h : K (a.put o.dst v) w') : o.wp P a w K Q := by
  unfold Oper.wp
  rw [hr]
  exact h
theorem upon_of_skip {P : Program} {o : Oper} {a : Act} {w w' : World} {K : Act → World → Prop} {Q : Exit → Act → World → Prop} (hr : (execOp a.eval o).run P w = .ok .skip w') (h : K (a.put o.dst undef) w') : o.wp P a w K Q := by
  unfold Oper.wp
  rw [hr]
  exact h

theorem fill_parts {T : List (Nat × SV)} {A : Nat → Nat} {n c : Nat} {a : Act} {w : World} (h : TD E A T n c a w) {esz : Nat} : ∀ {ps : List (Nat × Operand)} {i : Nat} {cs : List Value} {acc : Array Value},
    bParts T esz i ps = some cs → acc.size = (i + ps.length) * esz → cs.length = ps.length * esz ∧ ∃ r, Instr.fill (fun i => some (i * esz, esz)) acc (ps.map fun x => (x.1, a.eval x.2)) = some r ∧ r.toList = acc.toList.take (i * esz) ++ cs
  | [], i, cs, acc, hp, hs => by
    simp [bParts] at hp; subst hp
    refine ⟨by simp, acc, by simp [Instr.fill], ?_⟩
    rw [List.take_of_length_le (by simp [hs])]; simp
  | (j, x) :: ps, i, cs, acc, hp, hs => by
    simp only [bParts] at hp
    split at hp
    · rename_i hij
      obtain rfl := Nat.eq_of_beq_eq_true hij
      split at hp
      · rename_i u hu
        split at hp
        · rename_i l hl
          split at hp
          · rename_i hsz
            split at hp
            · rename_i q hq
              simp at hp; subst hp
              obtain ⟨c1, c2⟩ := valCells_cells hl
              have hsz' := Nat.eq_of_beq_eq_true hsz
              have hus : u.cells.size = esz := by rw [← hsz', ← c1]; simp
              have hmul : (i + (ps.length + 1)) * esz = i * esz + (ps.length + 1) * esz := Nat.add_mul _ _ _
              have hmul2 : (ps.length + 1) * esz = ps.length * esz + esz := Nat.succ_mul _ _
              have hle : i * esz + u.cells.size ≤ acc.size := by
                rw [hs, hus]; simp only [List.length_cons]; omega
              have hset := fill_one (cs := acc) (off := i * esz) (u := u) hle
              rw [setAt_get _ _ _ (by simpa using hle)] at hset
              obtain ⟨acc', hacc⟩ : ∃ z, z = (u.cells.zipIdx.foldl (fun cs (c, j) => cs.setIfInBounds (i * esz + j) c) acc) := ⟨_, rfl⟩
              rw [← hacc] at hset
              have hsize' : acc'.size = (i + 1 + ps.length) * esz := by
                have : acc'.toList.length = acc.size := by rw [hset]; simp; omega
                simp at this
                rw [this, hs]; simp only [List.length_cons]; congr 1; omega
              obtain ⟨g1, r, g2, g3⟩ := fill_parts h (acc := acc') hq hsize'
              refine ⟨by rw [List.length_append, g1, hsz']; simp only [List.length_cons]; omega, r, ?_, ?_⟩
              · simp only [List.map_cons, Instr.fill, evalV_sound h hu]
                rw [if_neg (by simp [hus]; rw [hus] at hle; exact hle)]
                rw [hacc] at g2
                exact g2
              · rw [g3, hset]
                have e1 : (i + 1) * esz = i * esz + esz := Nat.succ_mul _ _
                have e2 : u.cells.toList.length = esz := by simpa using hus
                have e3 : (List.take (i * esz) acc.toList ++ u.cells.toList).length = i * esz + esz := by
                  rw [List.length_append, List.length_take, e2]; simp; omega
                rw [e1, ← e3, List.take_left', c1, List.append_assoc]
                rfl
            · cases hp
          · cases hp
        · cases hp
      · cases hp
    · cases hp
end
end Go.Sx
