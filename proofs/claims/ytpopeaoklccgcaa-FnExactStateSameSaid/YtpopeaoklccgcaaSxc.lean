/- THE FRAMEWORK 'Sx', PART 3: operations that only compute, or read what is known. No project text. -/
import Derived.Test.YtpopeaoklccgcaaSxb
import Derived.Laws.Cells
namespace Go.Sx
open Go Go.RowKit

def loadN (M : List ((Nat × Nat) × SV)) (k : Nat) : Nat → Nat → Option (List Value)
  | _, 0 => some []
  | o, m + 1 => match lookM M k o with
    | some s => (match s.val? with
      | some x => (match loadN M k (o + 1) m with
        | some r => some (x :: r)
        | none => none)
      | none => none)
    | none => none

/-- The first n, exactly, written out. -/
def takeF {α : Type} : List α → Nat → Option (List α)
  | _, 0 => some []
  | [], _ + 1 => none
  | x :: r, n + 1 => match takeF r n with
    | some l => some (x :: l)
    | none => none
theorem takeF_eq {α : Type} : ∀ {l : List α} {n : Nat} {r : List α}, takeF l n = some r → r = l.take n ∧ r.length = n
  | l, 0, r, h => by
    have : r = [] := by cases l <;> simpa [takeF] using h.symm
    subst this; simp
  | [], n + 1, r, h => by simp [takeF] at h
  | x :: l, n + 1, r, h => by
    simp only [takeF] at h
    split at h
    · rename_i l' hl
      simp at h; subst h
      obtain ⟨h1, h2⟩ := takeF_eq hl
      subst h1
      simpa using h2
    · cases h

def addrOf : SV → Nat → Option SV
  | .p k o, off => some (.p k (o + off))
  | .e s ad cs o, off => some (.e s ad cs (o + off))
  | _, _ => none

def pMove (T : List (Nat × SV)) (x : Operand) : Option SV := evalO T x
def pPick (T : List (Nat × SV)) (x y z : Operand) : Option SV :=
  match evalO T x with
  | some (.lit true) => evalO T y
  | some (.lit false) => evalO T z
  | _ => none
def pExtract (T : List (Nat × SV)) (x : Operand) (i : Nat) : Option SV :=
  match evalO T x with
  | some (.v (.tuple vs)) => (match nth vs.toList i with
    | some y => some (.v y)
    | none => none)
  | _ => none
def pField (ti : TI) (T : List (Nat × SV)) (x : Operand) (i : Nat) : Option SV :=
  match evalO T x with
  | some (.v (.agg cs)) => (match ti with
    | .mk _ _ _ fs _ _ _ _ => (match nth fs i with
      | some (off, _, false) => (match nth cs.toList off with
        | some y => some (.v y)
        | none => none)
      | some (off, sz, true) => (match takeF (dropN cs.toList off) sz with
        | some l => some (.v (.agg l.toArray))
        | none => none)
      | none => none)
    | _ => none)
  | _ => none
def pFieldAddr (ti : TI) (T : List (Nat × SV)) (x : Operand) (i : Nat) : Option SV :=
  match ti with
  | .mk _ _ _ fs _ _ _ _ => (match nth fs i with
    | some (off, _ + 1, _) => (match evalO T x with
      | some s => addrOf s off
      | none => none)
    | _ => none)
  | _ => none
def pLoad (ti : TI) (T : List (Nat × SV)) (c : Nat) (M : List ((Nat × Nat) × SV)) (x : Operand) : Option SV :=
  match ti with
  | .mk agg sz _ _ _ _ _ _ => (match evalO T x with
    | some (.p k o) => (match agg with
      | true => (match loadN M k o sz with
        | some l => some (.v (.agg l.toArray))
        | none => none)
      | false => lookM M k o)
    | some (.e s _ cs o) => (match Nat.beq s c with
      | true => (match agg with
        | true => (match takeF (dropN cs o) sz with
          | some l => some (.v (.agg l.toArray))
          | none => none)
        | false => (match nth cs o with
          | some y => some (.v y)
          | none => none))
      | false => none)
    | _ => none)
  | _ => none
def pBin (ti : TI) (T : List (Nat × SV)) (op : BinOp) (x y : Operand) : Option SV :=
  match evalV T x with
  | some u => (match evalV T y with
    | some v => (match binV (kdTI ti) op u v with
      | some r => some (.v r)
      | none => none)
    | none => none)
  | none => none
def pUn (T : List (Nat × SV)) (op : UnOp) (x : Operand) : Option SV :=
  match op with
  | .not => (match evalO T x with
    | some (.lit true) => some (.lit false)
    | some (.lit false) => some (.lit true)
    | some (.v (.bool b)) => some (.v (.bool (!b)))
    | _ => none)
  | .neg => (match evalO T x with
    | some (.v (.int k m)) => some (.v (.int k (k.wrap (0 - m))))
    | _ => none)
  | _ => none
def pConv (ti : TI) (T : List (Nat × SV)) (x : Operand) : Option SV :=
  match ikTI ti with
  | some k => (match evalO T x with
    | some (.v (.int _ m)) => some (.v (.int k (k.wrap m)))
    | _ => none)
  | none => none
def pLen (T : List (Nat × SV)) (ti : TI) (x : Operand) : Option SV :=
  match evalO T x with
  | some (.v (.slice _ m _)) => (match ti with
    | .mk _ _ _ _ (some _) _ _ _ => some (.v (.int .i64 (m : Int)))
    | _ => none)
  | _ => none
def capsOf (T : List (Nat × SV)) : List Operand → Option (List (Nat × Nat))
  | [] => some []
  | x :: r => match evalO T x with
    | some (.p k o) => (match capsOf T r with
      | some l => some ((k, o) :: l)
      | none => none)
    | _ => none
def pFunc (T : List (Nat × SV)) (fn : Fn) (first cap : Array Operand) : Option SV :=
  match fn with
  | .func g => (match first.toList with
    | [] => (match capsOf T cap.toList with
      | some l => some (.f g l)
      | none => none)
    | _ => none)
  | _ => none
def pNil (T : List (Nat × SV)) (x : Operand) : Option SV :=
  match evalO T x with
  | some (.p k o) => some (.p k o)
  | some (.e s ad cs o) => some (.e s ad cs o)
  | _ => none

/-- The cells of a value that is to be stored. -/
def oneB : Value → Bool
  | .agg _ => false
  | .tuple _ => false
  | _ => true
def allOne : List Value → Bool
  | [] => true
  | x :: r => match oneB x with
    | true => allOne r
    | false => false
def valCells : Value → Option (List Value)
  | .agg cs => (match allOne cs.toList with
    | true => some cs.toList
    | false => none)
  | .tuple _ => none
  | x => some [x]
/-- The parts of a struct that is built, laid over its zero. -/
def setAt : List Value → Nat → List Value → List Value
  | l, _, [] => l
  | [], _, _ :: _ => []
  | _ :: r, 0, x :: xs => x :: setAt r 0 xs
  | y :: r, n + 1, x :: xs => y :: setAt r n (x :: xs)
def pBuildGo (fs : List (Nat × Nat × Bool)) (T : List (Nat × SV)) : List Value → List (Nat × Operand) → Option (List Value)
  | cs, [] => some cs
  | cs, (i, x) :: r => match nth fs i with
    | some (off, sz, _) => (match evalV T x with
      | some u => (match valCells u with
        | some l => (match Nat.beq l.length sz with
          | true => (match Nat.ble (off + sz) cs.length with
            | true => pBuildGo fs T (setAt cs off l) r
            | false => none)
          | false => none)
        | none => none)
      | none => none)
    | none => none
def pBuild (ti : TI) (T : List (Nat × SV)) (ps : Array (Nat × Operand)) : Option SV :=
  match ti with
  | .mk _ _ zero (f :: fs) _ _ _ _ => (match pBuildGo (f :: fs) T zero ps.toList with
    | some l => some (.v (.agg l.toArray))
    | none => none)
  | _ => none

def pureV (ti : Nat → TI) (T : List (Nat × SV)) (c : Nat) (M : List ((Nat × Nat) × SV)) : Op → Option SV
  | .move x => pMove T x
  | .assign x => pMove T x
  | .pick x y z => pPick T x y z
  | .extract x i => pExtract T x i
  | .field t x i => pField (ti t) T x i
  | .fieldAddr t x i => pFieldAddr (ti t) T x i
  | .load t x => pLoad (ti t) T c M x
  | .binOp op t x y _ => pBin (ti t) T op x y
  | .unOp op _ x => pUn T op x
  | .convert t0 t x => (match ti t0 with
    | .none => none
    | .mk .. => pConv (ti t) T x)
  | .call k => (match k.callee with
    | .builtin .len => (match k.args.toList with
      | [x] => (match k.argTypes.toList with
        | [t] => pLen T (ti t) x
        | _ => none)
      | _ => none)
    | _ => none)
  | .makeFunc fn first cap => pFunc T fn first cap
  | .nilCheck x => pNil T x
  | .build t ps => pBuild (ti t) T ps
  | _ => none

section
variable {E : Env} {A : Nat → Nat} {T : List (Nat × SV)} {n c : Nat} {B : List (Nat × TypeId × Nat)} {M : List ((Nat × Nat) × SV)} {F : List Fct} {a : Act} {w w' : World}

def OKV (_E : Env) (A : Nat → Nat) (n c : Nat) (w : World) (r : Result Next) (s : SV) : Prop := r = .ok (.value (s.den A)) w ∧ s.okT n c w

theorem pMove_sound (h : TD E A T n c a w) {x : Operand} {s : SV} (hs : pMove T x = some s) (o : Oper) (ho : o.op = .move x ∨ o.op = .assign x) : OKV E A n c w ((execOp a.eval o).run E.P w) s := by
  obtain ⟨h1, h2⟩ := evalO_sound h hs
  refine ⟨?_, h2⟩
  rcases ho with ho | ho <;> simp [execOp, ho, h1]
theorem pPick_sound (h : TD E A T n c a w) {x y z : Operand} {s : SV} (hs : pPick T x y z = some s) (o : Oper) (ho : o.op = .pick x y z) : OKV E A n c w ((execOp a.eval o).run E.P w) s := by
  unfold pPick at hs
  split at hs
  · rename_i hx
    have hb := (evalO_sound h hx).1
    obtain ⟨h1, h2⟩ := evalO_sound h hs
    exact ⟨by simp [execOp, ho, hb, h1, SV.den, asBool], h2⟩
  · rename_i hx
    have hb := (evalO_sound h hx).1
    obtain ⟨h1, h2⟩ := evalO_sound h hs
    exact ⟨by simp [execOp, ho, hb, h1, SV.den, asBool], h2⟩
  · cases hs
theorem pExtract_sound (h : TD E A T n c a w) {x : Operand} {i : Nat} {s : SV} (hs : pExtract T x i = some s) (o : Oper) (ho : o.op = .extract x i) : OKV E A n c w ((execOp a.eval o).run E.P w) s := by
  unfold pExtract at hs
  split at hs
  · rename_i vs hx
    have hb := (evalO_sound h hx).1
    split at hs
    · rename_i y hy
      simp at hs; subst hs
      rw [nth_eq] at hy
      exact ⟨by simp [execOp, ho, hb, SV.den, Instr.extract, show vs[i]? = some y by simpa using hy], trivial⟩
    · cases hs
  · cases hs
theorem fs_field {P : Program} {d : TypeDesc} {fs : List (Nat × Nat × Bool)} (h : fsOf P d = fs.map (fun x => (x.1, some x.2.1, some x.2.2))) {i off sz : Nat} {ag : Bool} (hi : nth fs i = some (off, sz, ag)) :
    ∃ (fields : Array Field) (f : Field) (fi : TypeInfo) (fd : TypeDesc), d = .struct fields ∧ fields[i]? = some f ∧ f.offset = off ∧ P.info? f.type = some fi ∧ fi.size = sz ∧ P.underlying f.type = some fd ∧ isAggD fd = ag := by
  rw [nth_eq] at hi
  cases d <;> simp only [fsOf] at h
  case struct fields =>
    have h' := congrArg (fun l => l[i]?) h
    simp only [List.getElem?_map, hi, Option.map_some] at h'
    cases hf : fields.toList[i]? with
    | none => rw [hf] at h'; simp at h'
    | some f =>
      rw [hf] at h'
      simp at h'
      obtain ⟨h1, ⟨fi, h2, h3⟩, fd, h4, h5⟩ := h'
      exact ⟨fields, f, fi, fd, rfl, by simpa using hf, h1, h2, h3, h4, h5⟩
  all_goals
    exfalso
    cases fs with
    | nil => simp at hi
    | cons x r => simp at h
theorem run_isAgg {P : Program} {t : TypeId} {d : TypeDesc} (h : P.underlying t = some d) (w : World) : (isAgg t).run P w = .ok (isAggD d) w := by
  unfold isAgg
  cases d <;> simp [underlying, h, isAggD]
theorem run_sizeOf {P : Program} {t : TypeId} {i : TypeInfo} (h : P.info? t = some i) (w : World) : (sizeOf t).run P w = .ok i.size w := by simp [sizeOf, typeInfo, h]
theorem pField_sound {ti : Nat → TI} (hti : ∀ t, TIok E.P t (ti t)) (h : TD E A T n c a w) {t : TypeId} {x : Operand} {i : Nat} {s : SV} (hs : pField (ti t) T x i = some s) (o : Oper) (ho : o.op = .field t x i) : OKV E A n c w ((execOp a.eval o).run E.P w) s := by
  unfold pField at hs
  split at hs
  · rename_i cs hx
    have hb := (evalO_sound h hx).1
    split at hs
    · rename_i agg size zero fs el ik kd bytes hte
      have htt := hti t
      rw [hte] at htt
      obtain ⟨ii, d, z, e1, e2, e3, e4, e5, e6, e7, e8, e9, e10, e11⟩ := tiSum_parts htt
      split at hs
      · rename_i off sz hf
        obtain ⟨fields, f, fi, fd, rfl, hfi, rfl, g1, g2, g3, g4⟩ := fs_field e7 hf
        split at hs
        · rename_i y hy
          simp at hs; subst hs
          rw [nth_eq] at hy
          refine ⟨?_, trivial⟩
          simp [execOp, ho, hb, SV.den, Instr.field, underlying, e2, hfi, asAgg, part, run_isAgg g3, g4, show cs[f.offset]? = some y by simpa using hy]
        · cases hs
      · rename_i off sz hf
        obtain ⟨fields, f, fi, fd, rfl, hfi, rfl, g1, g2, g3, g4⟩ := fs_field e7 hf
        split at hs
        · rename_i l hl
          simp at hs; subst hs
          obtain ⟨t1, t2⟩ := takeF_eq hl
          rw [dropN_eq] at t1
          refine ⟨?_, trivial⟩
          have hex : cs.extract f.offset (f.offset + sz) = l.toArray := by
            apply Array.ext'
            rw [t1]
            simp [Array.toList_extract, List.extract_eq_take_drop]
          simp [execOp, ho, hb, SV.den, Instr.field, underlying, e2, hfi, asAgg, part, run_isAgg g3, g4, run_sizeOf g1, g2, hex]
        · cases hs
      · cases hs
    · cases hs
  · cases hs
theorem ptr_add (A : Nat → Nat) (k o off : Nat) : (⟨A k, o, none⟩ : Addr).add off = ⟨A k, o + off, none⟩ := by
  unfold Addr.add; split <;> simp_all
theorem addr_add_add (a : Addr) (i j : Nat) : (a.add i).add j = a.add (i + j) := by
  unfold Addr.add
  by_cases hi : i = 0 <;> by_cases hj : j = 0 <;> simp [hi, hj, Nat.add_assoc]
theorem addrOf_den {s : SV} {off : Nat} {r : SV} (h : addrOf s off = some r) (A : Nat → Nat) (n c : Nat) (w : World) : ∃ ad, s.den A = .pointer (some ad) ∧ r.den A = .pointer (some (ad.add off)) ∧ (s.okT n c w → r.okT n c w) := by
  cases s <;> simp [addrOf] at h <;> subst h
  · exact ⟨_, rfl, by simp [SV.den, ptr, ptr_add], fun h => h⟩
  · exact ⟨_, rfl, by simp [SV.den, addr_add_add], fun h => h⟩
theorem pFieldAddr_sound {ti : Nat → TI} (hti : ∀ t, TIok E.P t (ti t)) (h : TD E A T n c a w) {t : TypeId} {x : Operand} {i : Nat} {s : SV} (hs : pFieldAddr (ti t) T x i = some s) (o : Oper) (ho : o.op = .fieldAddr t x i) : OKV E A n c w ((execOp a.eval o).run E.P w) s := by
  unfold pFieldAddr at hs
  split at hs
  · rename_i agg size zero fs el ik kd bytes hte
    have htt := hti t
    rw [hte] at htt
    obtain ⟨ii, d, z, e1, e2, e3, e4, e5, e6, e7, e8, e9, e10, e11⟩ := tiSum_parts htt
    split at hs
    · rename_i off sz _ hf
      obtain ⟨fields, f, fi, fd, rfl, hfi, rfl, g1, g2, g3, g4⟩ := fs_field e7 hf
      split at hs
      · rename_i s0 hx
        obtain ⟨hb, hok⟩ := evalO_sound h hx
        obtain ⟨ad, k1, k2, k3⟩ := addrOf_den hs A n c w
        refine ⟨?_, k3 hok⟩
        simp [execOp, ho, hb, k1, k2, Instr.fieldAt, underlying, e2, hfi, Instr.sureAddr, fieldPlace, run_sizeOf g1, g2]
      · cases hs
    · cases hs
  · cases hs
theorem loadN_spec (hM : ∀ k o v, lookM M k o = some v → w.cell? ⟨A k, o, none⟩ = some (v.den A)) {k : Nat} : ∀ {o m : Nat} {l : List Value}, loadN M k o m = some l → l.length = m ∧ ∀ j u, l[j]? = some u → w.cell? ⟨A k, o + j, none⟩ = some u
  | o, 0, l, h => by simp [loadN] at h; subst h; simp
  | o, m + 1, l, h => by
    simp only [loadN] at h
    split at h
    · rename_i s hs
      split at h
      · rename_i x hx
        split at h
        · rename_i r hr
          simp at h
          subst h
          obtain ⟨h1, h2⟩ := loadN_spec hM hr
          refine ⟨by simp [h1], fun j u hj => ?_⟩
          cases j with
          | zero =>
            simp at hj; subst hj
            rw [Nat.add_zero, hM _ _ _ hs, SV.val?_den hx A]
          | succ j =>
            have := h2 j u (by simpa using hj)
            rwa [show o + 1 + j = o + (j + 1) by omega] at this
        · cases h
      · cases h
    · cases h
theorem run_loadVar_agg {P : Program} {t : TypeId} {i : TypeInfo} {d : TypeDesc} (hi : P.info? t = some i) (hd : P.underlying t = some d) (ha : isAggD d = true) (ad : Addr) (l : List Value) (hl : l.length = i.size) (hc : ∀ j u, l[j]? = some u → w.cell? (ad.add j) = some u) :
    (loadVar t ad).run P w = .ok (.agg l.toArray) w := by
  simp only [loadVar, Sem.run_bind, run_isAgg hd, ha, Result.andThen_ok, if_true, run_sizeOf hi, ← hl, run_loadCells_list w ad l hc, Sem.run_pure]
theorem run_loadVar_one {P : Program} {t : TypeId} {d : TypeDesc} (hd : P.underlying t = some d) (ha : isAggD d = false) (ad : Addr) (u : Value) (hc : w.cell? ad = some u) :
    (loadVar t ad).run P w = .ok u w := by
  simp [loadVar, run_isAgg hd, ha, hc]
theorem pLoad_sound {ti : Nat → TI} (hti : ∀ t, TIok E.P t (ti t)) (hM : ∀ k o v, lookM M k o = some v → w.cell? ⟨A k, o, none⟩ = some (v.den A) ∧ v.small n) (h : TD E A T n c a w) {t : TypeId} {x : Operand} {s : SV} (hs : pLoad (ti t) T c M x = some s) (o : Oper) (ho : o.op = .load t x) : OKV E A n c w ((execOp a.eval o).run E.P w) s := by
  unfold pLoad at hs
  split at hs
  · rename_i agg size zero fs el ik kd bytes hte
    have htt := hti t
    rw [hte] at htt
    obtain ⟨ii, d, z, e1, e2, e3, e4, e5, e6, e7, e8, e9, e10, e11⟩ := tiSum_parts htt
    split at hs
    · rename_i k off hx
      obtain ⟨hb, hok⟩ := evalO_sound h hx
      split at hs
      · split at hs
        · rename_i l hl
          simp at hs; subst hs
          obtain ⟨l1, l2⟩ := loadN_spec (fun k o v hv => (hM k o v hv).1) hl
          have hr := run_loadVar_agg (w := w) e1 e2 e3 ⟨A k, off, none⟩ l (l1.trans e4.symm) (fun j u hj => by rw [ptr_add]; exact l2 j u hj)
          refine ⟨?_, trivial⟩
          simp [execOp, ho, hb, SV.den, ptr, Instr.loadAt, Instr.sureAddr, hr]
        · cases hs
      · obtain ⟨m1, m2⟩ := hM _ _ _ hs
        have hr := run_loadVar_one (w := w) e2 e3 ⟨A k, off, none⟩ _ m1
        refine ⟨?_, SV.small_okT m2⟩
        simp [execOp, ho, hb, SV.den, ptr, Instr.loadAt, Instr.sureAddr, hr]
    · rename_i st ad cs off hx
      obtain ⟨hb, hok⟩ := evalO_sound h hx
      split at hs
      · rename_i hst
        have hcs := hok.2 (Nat.eq_of_beq_eq_true hst)
        split at hs
        · split at hs
          · rename_i l hl
            simp at hs; subst hs
            obtain ⟨t1, t2⟩ := takeF_eq hl
            rw [dropN_eq] at t1
            have hr := run_loadVar_agg (w := w) e1 e2 e3 (ad.add off) l (t2.trans e4.symm) (fun j u hj => by
              rw [addr_add_add]
              rw [t1, List.getElem?_take] at hj
              split at hj
              · rw [List.getElem?_drop] at hj; exact hcs _ _ hj
              · cases hj)
            refine ⟨?_, trivial⟩
            simp [execOp, ho, hb, SV.den, Instr.loadAt, Instr.sureAddr, hr]
          · cases hs
        · split at hs
          · rename_i y hy
            simp at hs; subst hs
            rw [nth_eq] at hy
            have hr := run_loadVar_one (w := w) e2 e3 (ad.add off) y (hcs _ _ hy)
            refine ⟨?_, trivial⟩
            simp [execOp, ho, hb, SV.den, Instr.loadAt, Instr.sureAddr, hr]
          · cases hs
      · cases hs
    · cases hs
  · cases hs
end
end Go.Sx
