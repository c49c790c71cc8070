/- THE FRAMEWORK 'Sx', PART 2: what an operation that touches no memory of others comes to, by computation; and that it is right. No project text. -/
import Derived.Test.YtpopeaoklccgcaaSxa
namespace Go.Sx
open Go Go.RowKit

/-- What is known of a type: whether it is a struct or an array, its cells, its zero's cells, its fields (offset, cells, struct?), a slice's element, an int's kind, its kind (1 bool, 2 string, 3 slice), its bytes. -/
inductive TI where
  | none
  | mk (agg : Bool) (size : Nat) (zero : List Value) (fs : List (Nat × Nat × Bool)) (el : Option TypeId) (ik : Option IntKind) (kd : Nat) (bytes : Nat)

def isAggD : TypeDesc → Bool
  | .struct _ => true
  | .array .. => true
  | _ => false
def kdOf : TypeDesc → Nat
  | .bool => 1
  | .string => 2
  | .slice _ => 3
  | _ => 0
def elOf : TypeDesc → Option TypeId
  | .slice e => some e
  | _ => .none
def ikOf : TypeDesc → Option IntKind
  | .int k => some k
  | _ => .none
def fsOf (P : Program) : TypeDesc → List (Nat × Option Nat × Option Bool)
  | .struct fs => fs.toList.map fun f => (f.offset, (P.info? f.type).map (·.size), (P.underlying f.type).map isAggD)
  | _ => []
def tiSum (P : Program) (t : TypeId) : Option (Bool × Nat × Option (List Value) × List (Nat × Option Nat × Option Bool) × Option TypeId × Option IntKind × Nat × Nat) :=
  match P.info? t, P.underlying t with
  | some i, some d => some (isAggD d, i.size, i.zero.map (·.cells.toList), fsOf P d, elOf d, ikOf d, kdOf d, i.bytes)
  | _, _ => .none
def TIok (P : Program) (t : TypeId) : TI → Prop
  | .none => True
  | .mk agg size zero fs el ik kd bytes => tiSum P t = some (agg, size, some zero, fs.map (fun x => (x.1, some x.2.1, some x.2.2)), el, ik, kd, bytes)
def tiOf : List (Nat × TI) → Nat → TI
  | [], _ => .none
  | (k, x) :: r, t => match Nat.beq k t with
    | true => x
    | false => tiOf r t
def TIall (P : Program) (tab : List (Nat × TI)) : Prop := ∀ p ∈ tab, TIok P p.1 p.2
def TIallR (P : Program) : List (Nat × TI) → Prop
  | [] => True
  | p :: r => TIok P p.1 p.2 ∧ TIallR P r
theorem TIall.of_R {P : Program} : ∀ {tab : List (Nat × TI)}, TIallR P tab → TIall P tab
  | [], _, p, hp => by cases hp
  | q :: r, h, p, hp => by
    rcases List.mem_cons.1 hp with rfl | hp
    · exact h.1
    · exact TIall.of_R h.2 p hp
theorem tiOf_ok {P : Program} {tab : List (Nat × TI)} (h : TIall P tab) (t : Nat) : TIok P t (tiOf tab t) := by
  induction tab with
  | nil => trivial
  | cons p r ih =>
    obtain ⟨k, x⟩ := p
    simp only [tiOf]
    by_cases e : k = t
    · subst e; rw [Nat.beq_refl]; exact h (k, x) (by simp)
    · rw [show Nat.beq k t = false from by rw [← Bool.not_eq_true]; intro e'; exact e (Nat.eq_of_beq_eq_true e')]
      exact ih fun p hp => h p (by simp [hp])

def nth {α : Type} : List α → Nat → Option α
  | [], _ => .none
  | x :: _, 0 => some x
  | _ :: r, n + 1 => nth r n
theorem nth_eq {α : Type} (l : List α) (n : Nat) : nth l n = l[n]? := by
  induction l generalizing n with
  | nil => simp [nth]
  | cons x r ih => cases n <;> simp [nth, ih]
def takeN {α : Type} : List α → Nat → List α
  | _, 0 => []
  | [], _ + 1 => []
  | x :: r, n + 1 => x :: takeN r n
def dropN {α : Type} : List α → Nat → List α
  | l, 0 => l
  | [], _ + 1 => []
  | _ :: r, n + 1 => dropN r n
theorem takeN_eq {α : Type} (l : List α) (n : Nat) : takeN l n = l.take n := by
  induction l generalizing n with
  | nil => cases n <;> simp [takeN]
  | cons x r ih => cases n <;> simp [takeN, ih]
theorem dropN_eq {α : Type} (l : List α) (n : Nat) : dropN l n = l.drop n := by
  induction l generalizing n with
  | nil => cases n <;> simp [dropN]
  | cons x r ih => cases n <;> simp [dropN, ih]

def SV.val? : SV → Option Value
  | .v x => some x
  | .lit b => some (.bool b)
  | _ => .none
theorem SV.val?_den {s : SV} {x : Value} (h : s.val? = some x) (A : Nat → Nat) : s.den A = x := by
  cases s <;> simp [SV.val?] at h <;> subst h <;> rfl

def evalO (T : List (Nat × SV)) : Operand → Option SV
  | .tmp t => look T t
  | .const v => (match v with
    | .bool b => some (.lit b)
    | x => some (.v x))
  | .func f => some (.f f [])
  | .global _ => .none
def evalV (T : List (Nat × SV)) (x : Operand) : Option Value :=
  match evalO T x with
  | some s => s.val?
  | .none => .none
def evalOs (T : List (Nat × SV)) : List Operand → Option (List SV)
  | [] => some []
  | x :: r => match evalO T x with
    | some s => (match evalOs T r with
      | some l => some (s :: l)
      | .none => .none)
    | .none => .none

section
variable {E : Env} {A : Nat → Nat} {T : List (Nat × SV)} {n c : Nat} {B : List (Nat × TypeId × Nat)} {M : List ((Nat × Nat) × SV)} {F : List Fct} {a : Act} {w w' : World}

theorem evalO_sound (h : TD E A T n c a w) {x : Operand} {s : SV} (hx : evalO T x = some s) : a.eval x = s.den A ∧ s.okT n c w := by
  cases x with
  | tmp t => exact h.tm t s hx
  | const v =>
    cases v <;> simp [evalO] at hx <;> subst hx <;> exact ⟨rfl, trivial⟩
  | func f => simp [evalO] at hx; subst hx; exact ⟨rfl, by simp [SV.okT]⟩
  | global g => simp [evalO] at hx
theorem evalV_sound (h : TD E A T n c a w) {x : Operand} {u : Value} (hx : evalV T x = some u) : a.eval x = u := by
  unfold evalV at hx
  split at hx
  · rename_i s hs
    rw [(evalO_sound h hs).1]
    exact SV.val?_den hx A
  · cases hx
theorem evalOs_sound (h : TD E A T n c a w) : ∀ {xs : List Operand} {l : List SV}, evalOs T xs = some l → xs.map a.eval = l.map (SV.den A)
  | [], l, hl => by simp [evalOs] at hl; subst hl; rfl
  | x :: r, l, hl => by
    simp only [evalOs] at hl
    split at hl
    · rename_i s hs
      split at hl
      · rename_i l' hl'
        simp at hl
        subst hl
        simp [(evalO_sound h hs).1, evalOs_sound h hl']
      · cases hl
    · cases hl
end

/-- The same kind of int. -/
def sameK : IntKind → IntKind → Bool
  | .i8, .i8 | .i16, .i16 | .i32, .i32 | .i64, .i64 | .u8, .u8 | .u16, .u16 | .u32, .u32 | .u64, .u64 => true
  | _, _ => false
theorem sameK_eq {k k' : IntKind} (h : sameK k k' = true) : k = k' := by cases k <;> cases k' <;> simp [sameK] at h <;> rfl

def intV (op : BinOp) (k : IntKind) (x y : Int) : Option Value :=
  match op with
  | .add => some (.int k (k.wrap (x + y)))
  | .sub => some (.int k (k.wrap (x - y)))
  | .mul => some (.int k (k.wrap (x * y)))
  | .eql => some (.bool (x == y))
  | .neq => some (.bool (x != y))
  | .lss => some (.bool (decide (x < y)))
  | .leq => some (.bool (decide (x ≤ y)))
  | .gtr => some (.bool (decide (x > y)))
  | .geq => some (.bool (decide (x ≥ y)))
  | _ => .none
/-- Both sides of a binary operation: ints of one kind, strings, bools (kd: the type's kind). -/
def binV (kd : Nat) (op : BinOp) (x y : Value) : Option Value :=
  match x, y with
  | .int k a, .int k' b => (match sameK k k' with
    | true => intV op k a b
    | false => .none)
  | .bool a, .bool b => (match kd with
    | 1 => (match op with
      | .eql => some (.bool (a == b))
      | .neq => some (.bool (a != b))
      | _ => .none)
    | _ => .none)
  | _, _ => .none
def kdTI : TI → Nat
  | .none => 0
  | .mk _ _ _ _ _ _ kd _ => kd
def ikTI : TI → Option IntKind
  | .none => .none
  | .mk _ _ _ _ _ ik _ _ => ik

theorem tiSum_parts {P : Program} {t : TypeId} {agg : Bool} {size : Nat} {zero : List Value} {fs : List (Nat × Nat × Bool)} {el : Option TypeId} {ik : Option IntKind} {kd bytes : Nat} (h : TIok P t (.mk agg size zero fs el ik kd bytes)) :
    ∃ i d z, P.info? t = some i ∧ P.underlying t = some d ∧ isAggD d = agg ∧ i.size = size ∧ i.zero = some z ∧ z.cells.toList = zero ∧ fsOf P d = fs.map (fun x => (x.1, some x.2.1, some x.2.2)) ∧ elOf d = el ∧ ikOf d = ik ∧ kdOf d = kd ∧ i.bytes = bytes := by
  unfold TIok tiSum at h
  cases hi : P.info? t with
  | none => rw [hi] at h; simp at h
  | some i =>
    cases hd : P.underlying t with
    | none => rw [hi, hd] at h; simp at h
    | some d =>
      rw [hi, hd] at h
      simp at h
      obtain ⟨h1, h2, ⟨z, h3, h4⟩, h5, h6, h7, h8, h9⟩ := h
      exact ⟨i, d, z, rfl, rfl, h1, h2, h3, h4, h5, h6, h7, h8, h9⟩

theorem kd_bool {d : TypeDesc} (h : kdOf d = 1) : d = .bool := by cases d <;> simp [kdOf] at h <;> rfl
theorem kd_string {d : TypeDesc} (h : kdOf d = 2) : d = .string := by cases d <;> simp [kdOf] at h <;> rfl
theorem el_slice {d : TypeDesc} {e : TypeId} (h : elOf d = some e) : d = .slice e := by cases d <;> simp [elOf] at h; subst h; rfl
theorem ik_int {d : TypeDesc} {k : IntKind} (h : ikOf d = some k) : d = .int k := by cases d <;> simp [ikOf] at h; subst h; rfl

theorem intV_run {P : Program} {op : BinOp} {k : IntKind} {x y : Int} {v : Value} (t : TypeId) (h : intV op k x y = some v) (w : World) : (binOp op t (.int k x) (.int k y)).run P w = .ok v w := by
  cases op <;> simp [intV] at h <;> subst h <;> simp [binOp, Op.intArith, Op.intCmp]
theorem eqGuard_int {P : Program} {op : BinOp} {t : TypeId} {x y : Operand} {k k' : IntKind} {a b : Int} (w : World) : (eqGuard op t x y (.int k a) (.int k' b)).run P w = .ok () w := by
  cases op <;> rfl
theorem binV_run {P : Program} {op : BinOp} {t : TypeId} {ti : TI} (hti : TIok P t ti) {x y : Operand} {a b v : Value} (h : binV (kdTI ti) op a b = some v) (w : World) :
    (do eqGuard op t x y a b; binOp op t a b : Sem Value).run P w = .ok v w := by
  unfold binV at h
  split at h
  · split at h
    · rename_i k a k' b hk
      obtain rfl := sameK_eq hk
      simp only [Sem.run_bind, eqGuard_int, Result.andThen_ok, intV_run t h w]
    · cases h
  · rename_i a b
    split at h
    · rename_i hkd
      have hu : P.underlying t = some .bool := by
        cases ti with
        | none => simp [kdTI] at hkd
        | mk agg size zero fs el ik kd bytes =>
          obtain ⟨i, d, z, h1, h2, h3, h4, h5, h6, h7, h8, h9, h10, h11⟩ := tiSum_parts hti
          simp [kdTI] at hkd
          rw [h2, kd_bool (h10.trans hkd)]
      have heq : (Op.equal t (.bool a) (.bool b)).run P w = .ok (a == b) w := by
        show (Op.equalIn (9999 + 1) t (.bool a) (.bool b)).run P w = _
        unfold Op.equalIn
        simp [underlying, hu]
      cases op <;> simp at h <;> subst h
      · show ((do let b ← Op.equal t (.bool a) (.bool b); pure (Value.bool b)) : Sem Value).run P w = _
        rw [Sem.run_bind, heq]; rfl
      · show ((do let b ← Op.equal t (.bool a) (.bool b); pure (Value.bool !b)) : Sem Value).run P w = _
        rw [Sem.run_bind, heq]; rfl
    · cases h
  · cases h
end Go.Sx
