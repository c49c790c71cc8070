/- FnStartProg: texts that its proof stands on, part 2. -/
import Derived.OrdersHeld
import Derived.Laws.StructEq
import Derived.Laws.OwnMore
import Derived.Test.YtjkkoonennpceaaQStartProga
namespace Go.Sx

open Go Go.RowKit

structure BothW (p q : Prop) : Prop where
  l : p
  r : q

inductive GSt where
  | go
  | no
  | unk (t : Nat) (b : Bool)
  | bad

def guardSt (ops : List Oper) (T : List (Nat × SV)) : Option (Nat × Bool) → GSt
  | none => .go
  | some (j, want) => match gval ops T j with
    | some (_, .lit b) => (match b, want with
      | true, true => .go
      | false, false => .go
      | true, false => .no
      | false, true => .no)
    | some (t, .v (.bool b)) => .unk t b
    | some (_, .v (.tuple _)) => .no
    | _ => .bad

def isIdx : Op → Bool
  | .indexAddr .. => true
  | .binOp .. => true
  | .slice .. => true
  | _ => false

inductive Pick where
  | pure (i : Nat) (d : Option Nat) (s : SV)
  | skip (i : Nat) (d : Option Nat)
  | split (t : Nat) (b : Bool)
  | idx (i : Nat) (o : Oper)
  | none

def pickFrom (ti : Nat → TI) (ops : List Oper) (T : List (Nat × SV)) (c : Nat) (Ms : List ((Nat × Nat) × SV)) : List Nat → Pick
  | [] => .none
  | i :: r => match nth ops i with
    | some o => (match guardSt ops T o.guard with
      | .go => (match pureV ti T c Ms o.op with
        | some s => .pure i o.dst s
        | none => (match isIdx o.op with
          | true => .idx i o
          | false => pickFrom ti ops T c Ms r))
      | .no => .skip i o.dst
      | .unk t b => .split t b
      | .bad => pickFrom ti ops T c Ms r)
    | none => pickFrom ti ops T c Ms r

def allR : List Nat → (Nat → Prop) → Prop
  | [], _ => True
  | [i], p => p i
  | i :: r, p => BothW (p i) (allR r p)

theorem allR_mem : ∀ {l : List Nat} {p : Nat → Prop}, allR l p → ∀ i ∈ l, p i
  | [], _, _, i, hi => by cases hi
  | [x], _, h, i, hi => by simp at hi; subst hi; exact h
  | x :: y :: r, _, h, i, hi => by
    obtain ⟨h1, h2⟩ := h
    rcases List.mem_cons.1 hi with rfl | hi
    · exact h1
    · exact allR_mem h2 i hi

def noKey : List ((Nat × Nat) × SV) → Nat → Nat → Nat → Bool
  | [], _, _, _ => true
  | ((k, o), _) :: r, k', o', l => match Nat.beq k k' with
    | true => (match Nat.blt o o' with
      | true => noKey r k' o' l
      | false => (match Nat.blt o (o' + l) with
        | true => false
        | false => noKey r k' o' l))
    | false => noKey r k' o' l

theorem noKey_ok : ∀ {M : List ((Nat × Nat) × SV)} {k o l : Nat}, noKey M k o l = true → ∀ k' o' v, lookM M k' o' = some v → ¬ (k = k' ∧ o ≤ o' ∧ o' < o + l)
  | [], _, _, _, _, k', o', v, h => by simp [lookM] at h
  | ((a, b), x) :: r, k, o, l, h, k', o', v, hv => by
    rw [lookM_cons] at hv
    simp only [noKey] at h
    by_cases e : a = k' ∧ b = o'
    · obtain ⟨rfl, rfl⟩ := e
      split at h
      · rename_i hk
        have hk := Nat.eq_of_beq_eq_true hk
        split at h
        · rename_i hb
          have : b < o := by simpa using hb
          omega
        · split at h
          · cases h
          · rename_i hb
            have : ¬ b < o + l := fun h => by rw [show Nat.blt b (o + l) = true from by simpa using h] at hb; cases hb
            omega
      · rename_i hk
        have : ¬ a = k := fun e => by subst e; rw [Nat.beq_refl] at hk; cases hk
        omega
    · simp only [e, if_false] at hv
      split at h
      · split at h
        · exact noKey_ok h k' o' v hv
        · split at h
          · cases h
          · exact noKey_ok h k' o' v hv
      · exact noKey_ok h k' o' v hv

def keepF (Fs F : List Fct) : Prop := ∀ f ∈ Fs, f ∈ F

def keepM (Ms M : List ((Nat × Nat) × SV)) : Prop := ∀ k o v, lookM Ms k o = some v → lookM M k o = some v

/-- An operation that asks for a law, in a region that draws. -/
def opD (E : Env) (o : Oper) (Ms : List ((Nat × Nat) × SV)) (Fs : List Fct) (next : St → Prop) (T : List (Nat × SV)) (n c : Nat) (B : List (Nat × TypeId × Nat)) (M : List ((Nat × Nat) × SV)) (F : List Fct) : Prop :=
  keepM Ms M → keepF Fs F → ∀ A a w, WD E A n B M F w → TD E A T n c a w → o.wp E.P a w (fun a' w' => ∃ A' T' n' c' B' M' F', (∀ k, k < n → A' k = A k) ∧ n ≤ n' ∧ (∀ x ∈ B, x ∈ B') ∧ keepM Ms M' ∧ keepF Fs F' ∧ WD E A' n' B' M' F' w' ∧ (∀ w2, TD E A' T' n' c' a' w2) ∧ next (.mk T' n' c' B' M' F')) (fun _ _ _ => False)

/-- The same, where no block is made or written. -/
def opD0 (E : Env) (o : Oper) (Fs : List Fct) (next : St → Prop) (T : List (Nat × SV)) (n c : Nat) (B : List (Nat × TypeId × Nat)) (M : List ((Nat × Nat) × SV)) (F : List Fct) : Prop :=
  keepF Fs F → ∀ A a w, WD E A n B M F w → TD E A T n c a w → o.wp E.P a w (fun a' w' => ∃ T' c' F', WD E A n B M F' w' ∧ (∀ w2, TD E A T' n c' a' w2) ∧ keepF Fs F' ∧ next (.mk T' n c' B M F')) (fun _ _ _ => False)

theorem opD0.up {E : Env} {o : Oper} {Ms : List ((Nat × Nat) × SV)} {Fs : List Fct} {next : St → Prop} {T : List (Nat × SV)} {n c : Nat} {B : List (Nat × TypeId × Nat)} {M : List ((Nat × Nat) × SV)} {F : List Fct} (h : opD0 E o Fs next T n c B M F) : opD E o Ms Fs next T n c B M F := by
  intro hm hf A a w hW hT
  have := h hf A a w hW hT
  refine Oper.wp_mono (Q := fun _ _ _ => False) ?_ this
  rintro a' w' ⟨T', c', F', h1, h2, h3, h4⟩
  exact ⟨A, T', n, c', B, M, F', fun _ _ => rfl, Nat.le_refl _, fun _ h => h, hm, h3, h1, h2, h4⟩

def effD (E : Env) (ti : Nat → TI) (o : Oper) (Ms : List ((Nat × Nat) × SV)) (Fs : List Fct) (next : St → Prop) (T : List (Nat × SV)) (n c : Nat) (B : List (Nat × TypeId × Nat)) (M : List ((Nat × Nat) × SV)) (F : List Fct) : Op → Prop
  | .alloc t => (match ti t with
    | .mk _ sz zero _ _ _ _ _ => (match o.dst with
      | some d => (match Nat.blt d E.N with
        | true => (match Nat.beq (listLen zero) sz with
          | true => storeK n 0 (zero.map .v) M fun M' => next (.mk ((d, .p n 0) :: T) (n + 1) (c + 1) ((n, t, sz) :: B) M' F)
          | false => False)
        | false => False)
      | none => False)
    | .none => False)
  | .load t x => (match pLoad (ti t) T c M x with
    | some s => (match o.dst with
      | some d => (match Nat.blt d E.N with
        | true => (match s with
          | .e .. => False
          | s => next (.mk ((d, s) :: T) n (c + 1) B M F))
        | false => False)
      | none => False)
    | none => OpW (opD E o Ms Fs next T n c B M F))
  | .store t x y => (match o.dst with
    | some _ => False
    | none => (match evalO T x with
      | some (.p k off) => (match ti t with
        | .mk _ sz _ _ _ _ _ _ => (match evalO T y with
          | some s => (match cellsSV s with
            | some l => (match Nat.beq (listLen l) sz with
              | true => (match lookB B k with
                | some bsz => (match Nat.ble (off + sz) bsz with
                  | true => (match noKey Ms k off sz with
                    | true => storeK k off l M fun M' => next (.mk T n (c + 1) B M' F)
                    | false => False)
                  | false => False)
                | none => False)
              | false => False)
            | none => False)
          | none => False)
        | .none => False)
      | _ => OpW (opD E o Ms Fs next T n c B M F)))
  | .buildSlice t len ps => (match ti t with
    | .mk _ _ _ _ (some e) _ _ _ => (match ti e with
      | .mk _ esz _ _ _ _ _ _ => (match o.dst with
        | some d => (match Nat.blt d E.N with
          | true => (match Nat.beq (listLen ps.toList) len with
            | true => (match Nat.ble (len * esz + len) 16777216 with
              | true => (match bParts T esz 0 ps.toList with
                | some cs => AllSl fun y => next (.mk ((d, .v (y.val len)) :: T) n (c + 1) B M (fOwn false y e esz cs len :: F))
                | none => False)
              | false => False)
            | false => False)
          | false => False)
        | none => False)
      | .none => False)
    | _ => False)
  | _ => OpW (opD E o Ms Fs next T n c B M F)

/-- What has come up: structural twins of the model's questions. -/
def nthB : List Bool → Nat → Bool
  | [], _ => false
  | b :: _, 0 => b
  | _ :: r, n + 1 => nthB r n

def setB : List Bool → Nat → List Bool
  | [], _ => []
  | _ :: r, 0 => true :: r
  | b :: r, n + 1 => b :: setB r n

def falses : List Oper → List Bool
  | [] => []
  | _ :: r => false :: falses r

def rdyE (L : List Bool) : List Edge → Bool
  | [] => true
  | e :: r => match e.ground with
    | .textOnly _ => rdyE L r
    | .gcOnly _ => rdyE L r
    | _ => (match nthB L e.on with
      | true => rdyE L r
      | false => false)

def readyB (L : List Bool) : Nat → List Oper → List Bool → List Nat
  | k, o :: r, b :: l => (match b with
    | true => readyB L (k + 1) r l
    | false => (match rdyE L o.after.toList with
      | true => k :: readyB L (k + 1) r l
      | false => readyB L (k + 1) r l))
  | _, _, _ => []

def hasEdge (o : Oper) (i : Nat) : Bool := o.after.any fun e => Region.binds .any e && e.on == i

def apartAll (ops : Array Oper) : Bool := (List.range ops.size).all fun i => (List.range ops.size).all fun j => match ops[i]?, ops[j]? with
  | some x, some y => i == j || hasEdge x j || hasEdge y i || x.apart ops y
  | _, _ => true

theorem nthB_eq : ∀ (L : List Bool) (i : Nat), nthB L i = L.toArray.getD i false
  | [], i => by simp [nthB]
  | b :: r, 0 => by simp [nthB]
  | b :: r, i + 1 => by rw [nthB, nthB_eq r i]; simp [Array.getD_eq_getD_getElem?]

theorem setB_eq : ∀ (L : List Bool) (i : Nat), setB L i = L.set i true
  | [], i => by simp [setB]
  | b :: r, 0 => by simp [setB]
  | b :: r, i + 1 => by rw [setB, setB_eq r i]; simp

theorem falses_eq : ∀ (l : List Oper), falses l = List.replicate l.length false
  | [] => rfl
  | _ :: r => by rw [falses, falses_eq r, List.length_cons, List.replicate_succ]

theorem rdyE_eq (L : List Bool) : ∀ (es : List Edge), rdyE L es = true ↔ ∀ e ∈ es, Region.binds .any e = true → L.toArray.getD e.on false = true
  | [] => by simp [rdyE]
  | e :: r => by
    rw [List.forall_mem_cons, ← rdyE_eq L r, ← nthB_eq]
    have e1 : (Region.Mode.any == Region.Mode.text) = false := rfl
    have e2 : (Region.Mode.any == Region.Mode.gc) = false := rfl
    cases hg : e.ground <;> cases hn : nthB L e.on <;> simp [rdyE, Region.binds, hg, hn, e1, e2]

theorem mem_readyB' (L : List Bool) : ∀ (ops : List Oper) (l : List Bool) (k i : Nat), i ∈ readyB L k ops l ↔ ∃ j, i = k + j ∧ l[j]? = some false ∧ ∃ o, ops[j]? = some o ∧ rdyE L o.after.toList = true
  | [], l, k, i => by cases l <;> simp [readyB]
  | o :: r, [], k, i => by simp [readyB]
  | o :: r, b :: l, k, i => by
    have ih := mem_readyB' L r l (k + 1) i
    have e : (∃ j, i = k + j ∧ (b :: l)[j]? = some false ∧ ∃ x, (o :: r)[j]? = some x ∧ rdyE L x.after.toList = true) ↔ (i = k ∧ b = false ∧ rdyE L o.after.toList = true) ∨ (∃ j, i = k + 1 + j ∧ l[j]? = some false ∧ ∃ x, r[j]? = some x ∧ rdyE L x.after.toList = true) := by
      constructor
      · rintro ⟨j, h1, h2, x, h3, h4⟩
        cases j with
        | zero =>
          simp only [List.getElem?_cons_zero, Option.some.injEq] at h2 h3
          subst h3
          exact .inl ⟨h1, h2, h4⟩
        | succ j => exact .inr ⟨j, by omega, by simpa using h2, x, by simpa using h3, h4⟩
      · rintro (⟨h1, h2, h3⟩ | ⟨j, h1, h2, x, h3, h4⟩)
        · exact ⟨0, h1, by simp [h2], o, by simp, h3⟩
        · exact ⟨j + 1, by omega, by simpa using h2, x, by simpa using h3, h4⟩
    rw [e, ← ih]
    cases b with
    | true => simp [readyB]
    | false => cases hr : rdyE L o.after.toList <;> simp [readyB, hr]

theorem mem_readyB {L : List Bool} {ops : List Oper} {i : Nat} : i ∈ readyB L 0 ops L ↔ i ∈ Region.ready .any ops.toArray L.toArray := by
  rw [mem_readyB', mem_ready]
  constructor
  · rintro ⟨j, h1, h2, o, h3, h4⟩
    obtain rfl : i = j := by omega
    exact ⟨by simp [Array.getD_eq_getD_getElem?, h2], o, by simpa using h3, fun e he => (rdyE_eq L _).1 h4 e (by simpa using he)⟩
  · rintro ⟨h2, o, h3, h4⟩
    refine ⟨i, by omega, ?_, o, by simpa using h3, (rdyE_eq L _).2 fun e he => h4 e (by simpa using he)⟩
    rw [Array.getD_eq_getD_getElem?] at h2
    simp only [List.getElem?_toArray] at h2
    cases hx : L[i]? with
    | none => rw [hx] at h2; simp at h2
    | some b => rw [hx] at h2; simp at h2; rw [h2]

theorem free_of_apart {ops : List Oper} (h : apartAll ops.toArray = true) {L : List Bool} {i : Nat} (hi : i ∈ Region.ready .any ops.toArray L.toArray) : Region.free .any ops.toArray L.toArray i = true := by
  obtain ⟨h1, o, h2, h3⟩ := mem_ready.1 hi
  unfold Region.free
  rw [h2]
  simp only [List.all_eq_true]
  intro j hj
  have hil : i < ops.toArray.size := (Array.getElem?_eq_some_iff.1 h2).1
  simp only [apartAll, List.all_eq_true] at h
  have hij := h i (by simpa using hil) j hj
  rw [h2] at hij
  cases hjo : ops.toArray[j]? with
  | none => simp
  | some oj =>
    rw [hjo] at hij
    simp only [Bool.or_eq_true] at hij ⊢
    rcases hij with ((hij | hij) | hij) | hij
    · exact .inl (.inl (by simp only [beq_iff_eq] at hij ⊢; exact hij.symm))
    · left; right
      simp only [hasEdge, Array.any_eq_true', Bool.and_eq_true, beq_iff_eq] at hij
      obtain ⟨e, he, hb, rfl⟩ := hij
      have := h3 e he hb
      rw [Array.getD_eq_getD_getElem?] at this ⊢
      cases hx : L.toArray[e.on]? with
      | none => rw [hx] at this; simp at this
      | some b => rw [hx] at this; simp at this; simp [this]
    · right; left; exact hij
    · right; right; exact hij

/-- The region: fuel, what has come up, the state. -/
def vcD (E : Env) (ti : Nat → TI) (ops : List Oper) (n0 : Nat) (B0 : List (Nat × TypeId × Nat)) (Ms : List ((Nat × Nat) × SV)) (Fs : List Fct) (K : St → Prop) : Nat → List Bool → St → Prop
  | 0, _, _ => False
  | f + 1, L, .mk T n c B M F => match pickFrom ti ops T c Ms (readyB L 0 ops L) with
    | .pure i d s => (match d with
        | some d => (match Nat.blt d E.N with
          | true => vcD E ti ops n0 B0 Ms Fs K f (setB L i) (.mk ((d, s) :: T) n c B M F)
          | false => False)
        | none => vcD E ti ops n0 B0 Ms Fs K f (setB L i) (.mk T n c B M F))
    | .skip i d => (match d with
        | some d => (match Nat.blt d E.N with
          | true => vcD E ti ops n0 B0 Ms Fs K f (setB L i) (.mk ((d, .v undef) :: T) n c B M F)
          | false => False)
        | none => vcD E ti ops n0 B0 Ms Fs K f (setB L i) (.mk T n c B M F))
    | .split t b => CaseB b (vcD E ti ops n0 B0 Ms Fs K f L (.mk ((t, .lit true) :: T) n c B M F)) (vcD E ti ops n0 B0 Ms Fs K f L (.mk ((t, .lit false) :: T) n c B M F))
    | .idx i o => OpW (∀ A, ∃ s : SV, (∀ a w, WD E A n0 B0 Ms Fs w → TD E A T n c a w → (execOp a.eval o).run E.P w = .ok (.value (s.den A)) w ∧ s.okT n c w) ∧ (∃ d, Dst E o d ∧ vcD E ti ops n0 B0 Ms Fs K f (setB L i) (.mk ((d, s) :: T) n c B M F)))
    | .none => (match readyB L 0 ops L with
      | [] => K (.mk T n c B M F)
      | i :: r => allR (i :: r) fun i => match nth ops i with
        | some o => (match guardSt ops T o.guard with
          | .go => effD E ti o Ms Fs (fun s' => vcD E ti ops n0 B0 Ms Fs K f (setB L i) s') T n c B M F o.op
          | _ => False)
        | none => False)

section

variable {E : Env} {ti : Nat → TI}

theorem den_agree {A A' : Nat → Nat} {n : Nat} (h : ∀ k, k < n → A k = A' k) {v : SV} (hv : v.small n) : v.den A = v.den A' := by
  cases v with
  | p k o => simp [SV.den, ptr, h k hv]
  | f g cap =>
    simp only [SV.den]
    congr 2
    apply List.map_congr_left
    intro x hx
    simp [ptr, h x.1 (hv x hx)]
  | _ => rfl

theorem WD.agree {A A' : Nat → Nat} {n : Nat} {B : List (Nat × TypeId × Nat)} {M : List ((Nat × Nat) × SV)} {F : List Fct} {w : World} (h : WD E A n B M F w) (ha : ∀ k, k < n → A k = A' k) : WD E A' n B M F w := by
  refine ⟨?_, ?_, ?_, ?_, h.n0, h.ext, ?_, h.dj⟩
  · intro k ty sz hk
    have := h.key k ty sz hk
    rw [ha k this.1] at this
    exact this
  · intro k ty sz k' ty' sz' hk hk' e
    rw [← ha k (h.key _ _ _ hk).1, ← ha k' (h.key _ _ _ hk').1] at e
    exact h.inj _ _ _ _ _ _ hk hk' e
  · intro k o v hv
    obtain ⟨⟨ty, sz, hk⟩, h2, h3⟩ := h.mem k o v hv
    refine ⟨⟨ty, sz, hk⟩, ?_, h3⟩
    rw [← ha k (h.key _ _ _ hk).1, ← den_agree ha h3]
    exact h2
  · intro k hk
    rw [← ha k (Nat.lt_of_lt_of_le hk h.n0)]
    exact h.a0 k hk
  · intro f hf
    obtain ⟨h1, h2, h3⟩ := h.fct f hf
    exact ⟨h1, fun b hb => ⟨(h2 b hb).1, fun k ty sz hk => by rw [← ha k (h.key _ _ _ hk).1]; exact (h2 b hb).2 k ty sz hk⟩, h3⟩

/-- How the state at hand stands to the one at the region's beginning. -/
structure InvD (E : Env) (A0 : Nat → Nat) (n0 : Nat) (B0 : List (Nat × TypeId × Nat)) (Ms : List ((Nat × Nat) × SV)) (Fs : List Fct) (A : Nat → Nat) (n : Nat) (B : List (Nat × TypeId × Nat)) (M : List ((Nat × Nat) × SV)) (F : List Fct) (w : World) : Prop where
  ag : ∀ k, k < n0 → A k = A0 k
  hn : n0 ≤ n
  hb : ∀ x ∈ B0, x ∈ B
  hm : ∀ k o v, lookM Ms k o = some v → lookM M k o = some v
  hf : keepF Fs F
  hw : WD E A n B M F w

theorem InvD.start {A0 A : Nat → Nat} {n0 n : Nat} {B0 B : List (Nat × TypeId × Nat)} {Ms M : List ((Nat × Nat) × SV)} {Fs F : List Fct} {w ws : World} (h : InvD E A0 n0 B0 Ms Fs A n B M F w) (hs : WD E A0 n0 B0 Ms Fs ws) : WD E A0 n0 B0 Ms Fs w := by
  refine ⟨?_, ?_, ?_, hs.a0, hs.n0, h.hw.ext, ?_, hs.dj⟩
  · intro k ty sz hk
    obtain ⟨h1, _⟩ := hs.key k ty sz hk
    obtain ⟨_, h2⟩ := h.hw.key k ty sz (h.hb _ hk)
    rw [h.ag k h1] at h2
    exact ⟨h1, h2⟩
  · exact hs.inj
  · intro k o v hv
    obtain ⟨⟨ty, sz, hk⟩, _, h3⟩ := hs.mem k o v hv
    refine ⟨⟨ty, sz, hk⟩, ?_, h3⟩
    have := (h.hw.mem k o v (h.hm k o v hv)).2.1
    rw [h.ag k (hs.key _ _ _ hk).1, den_agree h.ag h3] at this
    exact this
  · intro f hf
    obtain ⟨h1, h2, h3⟩ := h.hw.fct f (h.hf f hf)
    exact ⟨h1, fun b hb => ⟨(h2 b hb).1, fun k ty sz hk => by rw [← h.ag k (hs.key _ _ _ hk).1]; exact (h2 b hb).2 k ty sz (h.hb _ hk)⟩, h3⟩

/-- A slice is built: the run. -/
theorem buildSlice_run {A : Nat → Nat} {T : List (Nat × SV)} {n c : Nat} {a : Act} {w : World} (hti : ∀ t, TIok E.P t (ti t)) (hT : TD E A T n c a w) {o : Oper} {t e len : Nat} {ps : Array (Nat × Operand)} {agg : Bool} {size : Nat} {zero : List Value} {fs : List (Nat × Nat × Bool)} {ik : Option IntKind} {kd bytes : Nat} {agg2 : Bool} {esz : Nat} {zero2 : List Value} {fs2 : List (Nat × Nat × Bool)} {el2 : Option TypeId} {ik2 : Option IntKind} {kd2 bytes2 : Nat} {cs : List Value}
    (hop : o.op = .buildSlice t len ps) (hte : ti t = .mk agg size zero fs (some e) ik kd bytes) (hte2 : ti e = .mk agg2 esz zero2 fs2 el2 ik2 kd2 bytes2) (hplen : Nat.beq (listLen ps.toList) len = true) (h24 : Nat.ble (len * esz + len) 16777216 = true) (hcs : bParts T esz 0 ps.toList = some cs) :
    (execOp a.eval o).run E.P w = .ok (.value (.slice (some ⟨w.heap.size, 0, none⟩) len len)) (w.alloc (.cells cs.toArray e)) ∧ Ext w (w.alloc (.cells cs.toArray e)) ∧ New w (w.alloc (.cells cs.toArray e)) [fOwn false ⟨some ⟨w.heap.size, 0, none⟩, len⟩ e esz cs len] := by
  have htt := hti t
  rw [hte] at htt
  obtain ⟨ii, dd, z, e1, e2, e3, e4, e5, e6, e7, e8, e9, e10, e11⟩ := tiSum_parts htt
  have htt2 := hti e
  rw [hte2] at htt2
  obtain ⟨ii2, dd2, z2, k1, k2, k3, k4, k5, k6, k7, k8, k9, k10, k11⟩ := tiSum_parts htt2
  have hdd := el_slice e8
  have hlen := Nat.eq_of_beq_eq_true hplen
  rw [listLen_eq] at hlen
  have h24' := Nat.le_of_ble_eq_true h24
  obtain ⟨r, g1, g2, g3⟩ : ∃ r, cs.length = len * esz ∧ Instr.fill (fun i => some (i * esz, esz)) ((Array.range (len * esz)).map (((if len * esz = 0 then #[] else z2.cells) : Array Value)[· % ((if len * esz = 0 then #[] else z2.cells) : Array Value).size]!)) (ps.toList.map fun x => (x.1, a.eval x.2)) = some r ∧ r.toList = cs := by
    obtain ⟨q1, r, q2, q3⟩ := fill_parts hT (acc := (Array.range (len * esz)).map (((if len * esz = 0 then #[] else z2.cells) : Array Value)[· % ((if len * esz = 0 then #[] else z2.cells) : Array Value).size]!)) hcs (by simp [hlen])
    exact ⟨r, by rw [q1, hlen], q2, by simpa using q3⟩
  have hrcs : r = cs.toArray := by apply Array.ext'; simpa using g3
  have hr : (execOp a.eval o).run E.P w = .ok (.value (.slice (some ⟨w.heap.size, 0, none⟩) len len)) (w.alloc (.cells cs.toArray e)) := by
    have hps : (ps.map fun (x : Nat × Operand) => (x.1, a.eval x.2)).toList = ps.toList.map fun x => (x.1, a.eval x.2) := by simp
    have hdd2 : E.P.underlying t = some (.slice e) := by rw [e2, hdd]
    simp only [execOp, hop, Instr.buildSlice, Sem.run_bind, underlying, run_program, Result.andThen_ok, hdd2, Sem.run_pure, run_sizeOf k1, k4, hps]
    rw [if_neg (show ¬ (len * esz > 2 ^ 24) by omega)]
    by_cases h0 : len * esz = 0
    · simp only [h0, if_true] at g2 ⊢
      simp only [Sem.run_bind, Sem.run_pure, Result.andThen_ok]
      rw [g2]
      simp [newRow, hrcs]
    · simp only [h0, if_false] at g2 ⊢
      simp only [Sem.run_bind, Sem.run_pure, Result.andThen_ok, zeroValue, typeInfo, run_program, k1, k5]
      rw [g2]
      simp [newRow, hrcs]
  have hex := Ext.alloc w (.cells cs.toArray e)
  have hown : (w.alloc (.cells cs.toArray e)).ownsRow 0 e esz (Sl.val ⟨some ⟨w.heap.size, 0, none⟩, len⟩ len) len cs := by
    refine ⟨g1, .inr ⟨w.heap.size, len, cs.toArray, rfl, Nat.zero_le _, heap_alloc_new w _, Nat.le_refl _, ?_, by simp [g1], ?_⟩⟩
    · simp only [maxLen]; omega
    · simp [← g1]
  have hnew : New w (w.alloc (.cells cs.toArray e)) [fOwn false ⟨some ⟨w.heap.size, 0, none⟩, len⟩ e esz cs len] := by
    refine ⟨fun f hf => ?_, List.pairwise_singleton _ _⟩
    simp only [List.mem_singleton] at hf
    subst hf
    refine ⟨hown, rfl, fun b hb => ?_⟩
    obtain ⟨ad, h1, h2⟩ := hb
    simp only [Option.some.injEq] at h1
    subst h1
    simp at h2
    subst h2
    simp
  exact ⟨hr, hex, hnew⟩

theorem effD_sound (hti : ∀ t, TIok E.P t (ti t)) {o : Oper} {next : St → Prop} {A0 A : Nat → Nat} {n0 n c : Nat} {B0 B : List (Nat × TypeId × Nat)} {Ms M : List ((Nat × Nat) × SV)} {Fs F : List Fct} {T : List (Nat × SV)} {a : Act} {w ws : World}
    (hv : effD E ti o Ms Fs next T n c B M F o.op) (hI : InvD E A0 n0 B0 Ms Fs A n B M F w) (hs : WD E A0 n0 B0 Ms Fs ws) (hT : TD E A T n c a w) {K : Act → World → Prop} {Q : Exit → Act → World → Prop}
    (hK : ∀ A' T' n' c' B' M' F' a' w', InvD E A0 n0 B0 Ms Fs A' n' B' M' F' w' → (∀ w2, TD E A' T' n' c' a' w2) → next (.mk T' n' c' B' M' F') → K a' w') :
    o.wp E.P a w K Q := by
  have hMlt : ∀ k o v, lookM Ms k o = some v → k < n0 := fun k o v hv => by
    obtain ⟨⟨ty, sz, hk⟩, _⟩ := hs.mem k o v hv
    exact (hs.key _ _ _ hk).1
  cases hop : o.op <;> rw [hop] at hv <;> simp only [effD] at hv
  case alloc t =>
    split at hv
    · rename_i agg sz zero fs el ik kd bytes hte
      split at hv
      · rename_i d hd
        split at hv
        · rename_i hdn
          split at hv
          · rename_i hlen
            have htt := hti t
            rw [hte] at htt
            obtain ⟨ii, dd, z, e1, e2, e3, e4, e5, e6, e7, e8, e9, e10, e11⟩ := tiSum_parts htt
            rw [storeK_eq] at hv
            have hsz := Nat.eq_of_beq_eq_true hlen
            rw [listLen_eq] at hsz
            have hal := hI.hw.alloc (l := zero.map .v) (fun x hx => by obtain ⟨y, _, rfl⟩ := List.mem_map.1 hx; trivial) t
            have hcells : ((zero.map SV.v).map (SV.den A)).toArray = z.cells := by
              rw [List.map_map, show (SV.den A ∘ SV.v) = id from rfl, List.map_id, ← e6]
            rw [hcells, List.length_map, hsz] at hal
            have hr : (execOp a.eval o).run E.P w = .ok (.value (.pointer (some ⟨w.heap.size, 0, none⟩))) (w.alloc (.cells z.cells t)) := by
              simp [execOp, hop, run_alloc e1 e5]
            refine upon_of_value hr ?_
            rw [hd]
            refine hK (fun k => if k = n then w.heap.size else A k) _ _ _ _ _ _ _ _ ⟨fun k hk => ?_, Nat.le_succ_of_le hI.hn, fun x hx => by simp [hI.hb x hx], fun k o v hv => ?_, hI.hf, hal⟩ (fun w2 => ?_) hv
            · have := hI.hn
              simp only [if_neg (show k ≠ n by omega)]
              exact hI.ag k hk
            · have := hI.hn
              have hk := hMlt k o v hv
              rw [lookM_storeL, if_neg (by omega)]
              exact hI.hm k o v hv
            · have := (hT.alloc w.heap.size w2).put (d := d) (v := .p n 0) (by simpa using hdn) (Nat.lt_succ_self n)
              simpa [SV.den, ptr] using this
          · exact hv.elim
        · exact hv.elim
      · exact hv.elim
    · exact hv.elim
  case load t x =>
    split at hv
    · rename_i s hsl
      split at hv
      · rename_i d hd
        split at hv
        · rename_i hdn
          obtain ⟨h1, h2⟩ := pLoad_sound hti (fun k o v hv => (hI.hw.mem k o v hv).2) hT hsl o hop
          refine upon_of_value h1 ?_
          rw [hd]
          split at hv
          · exact hv.elim
          · rename_i hne
            refine hK A _ _ _ _ _ _ _ _ ⟨hI.ag, hI.hn, hI.hb, hI.hm, hI.hf, hI.hw⟩ (fun w2 => (hT.step w2).put (by simpa using hdn) ?_) hv
            cases s with
            | e s ad cs off => exact (hne s ad cs off rfl).elim
            | p k o => exact h2
            | f g cap => exact h2
            | _ => trivial
        · exact hv.elim
      · exact hv.elim
    · obtain ⟨hv⟩ := hv
      exact Oper.wp_weak (fun a w ⟨A', T', n', c', B', M', F', g1, g2, g3, g4, g5, h1, h2, h4⟩ => hK A' _ _ _ _ _ _ _ _ ⟨fun k hk => (g1 k (Nat.lt_of_lt_of_le hk hI.hn)).trans (hI.ag k hk), Nat.le_trans hI.hn g2, fun x hx => g3 x (hI.hb x hx), g4, g5, h1⟩ h2 h4) (hv hI.hm hI.hf A a w hI.hw hT)
  case store t x y =>
    split at hv
    · exact hv.elim
    · rename_i hd
      split at hv
      · rename_i k off hx
        split at hv
        · rename_i agg sz zero fs el ik kd bytes hte
          split at hv
          · rename_i s hs'
            split at hv
            · rename_i l hl
              split at hv
              · rename_i hlen
                split at hv
                · rename_i bsz hb
                  split at hv
                  · rename_i hle
                    split at hv
                    · rename_i hnk
                      rw [storeK_eq] at hv
                      have htt := hti t
                      rw [hte] at htt
                      obtain ⟨ii, dd, z, e1, e2, e3, e4, e5, e6, e7, e8, e9, e10, e11⟩ := tiSum_parts htt
                      obtain ⟨h1, h2⟩ := evalO_sound hT hs'
                      obtain ⟨h3, h4⟩ := evalO_sound hT hx
                      obtain ⟨c1, c2, c3⟩ := cellsSV_spec (A := A) hl h2
                      obtain ⟨ty, hmem⟩ := lookB_mem hb
                      have hsz := Nat.eq_of_beq_eq_true hlen
                      rw [listLen_eq] at hsz
                      obtain ⟨w', hrun, hW'⟩ := hI.hw.store hmem c2 c3 (by rw [hsz]; exact Nat.le_of_ble_eq_true hle) E.P
                      have hcs : (s.den A).cells.size = ii.size := by
                        have : (s.den A).cells.toList.length = l.length := by rw [c1]; simp
                        simp at this
                        rw [this, hsz, e4]
                      have hr : (execOp a.eval o).run E.P w = .ok .skip w' := by
                        have h3' : a.eval x = .pointer (some ⟨A k, off, none⟩) := h3
                        simp only [execOp, hop, Instr.storeAt, h1, h3', Instr.sureAddr, Sem.run_bind, Sem.run_pure, Result.andThen_ok, storeVar, run_sizeOf e1]
                        rw [if_neg (by simp [hcs]), c1]
                        simp only [Result.andThen_ok, hrun]
                      refine upon_of_skip hr ?_
                      rw [hd]
                      refine hK A _ _ _ _ _ _ _ _ ⟨hI.ag, hI.hn, hI.hb, fun k' o' v hv => ?_, hI.hf, hW'⟩ (fun w2 => hT.step w2) hv
                      rw [lookM_storeL, if_neg (by rw [hsz]; exact noKey_ok hnk k' o' v hv)]
                      exact hI.hm k' o' v hv
                    · exact hv.elim
                  · exact hv.elim
                · exact hv.elim
              · exact hv.elim
            · exact hv.elim
          · exact hv.elim
        · exact hv.elim
      · obtain ⟨hv⟩ := hv
        exact Oper.wp_weak (fun a w ⟨A', T', n', c', B', M', F', g1, g2, g3, g4, g5, h1, h2, h4⟩ => hK A' _ _ _ _ _ _ _ _ ⟨fun k hk => (g1 k (Nat.lt_of_lt_of_le hk hI.hn)).trans (hI.ag k hk), Nat.le_trans hI.hn g2, fun x hx => g3 x (hI.hb x hx), g4, g5, h1⟩ h2 h4) (hv hI.hm hI.hf A a w hI.hw hT)
  case buildSlice t len ps =>
    split at hv
    · rename_i e ik kd bytes hte
      split at hv
      · rename_i agg2 esz zero2 fs2 el2 ik2 kd2 bytes2 hte2
        split at hv
        · rename_i d hd
          split at hv
          · rename_i hdn
            split at hv
            · rename_i hplen
              split at hv
              · rename_i h24
                split at hv
                · rename_i cs hcs
                  obtain ⟨hv⟩ := hv
                  obtain ⟨hr, hex, hnew⟩ := buildSlice_run hti hT hop hte hte2 hplen h24 hcs
                  refine upon_of_value hr ?_
                  rw [hd]
                  exact hK A _ _ _ _ _ _ _ _ ⟨hI.ag, hI.hn, hI.hb, hI.hm, fun f hf => List.mem_cons_of_mem _ (hI.hf f hf), hI.hw.learn hex hnew⟩ (fun w2 => (hT.step w2).put (d := d) (v := .v (Sl.val ⟨some ⟨w.heap.size, 0, none⟩, len⟩ len)) (by simpa using hdn) trivial) (hv ⟨some ⟨w.heap.size, 0, none⟩, len⟩)
                · exact hv.elim
              · exact hv.elim
            · exact hv.elim
          · exact hv.elim
        · exact hv.elim
      · exact hv.elim
    · exact hv.elim
  all_goals
    obtain ⟨hv⟩ := hv
    exact Oper.wp_weak (fun a w ⟨A', T', n', c', B', M', F', g1, g2, g3, g4, g5, h1, h2, h4⟩ => hK A' _ _ _ _ _ _ _ _ ⟨fun k hk => (g1 k (Nat.lt_of_lt_of_le hk hI.hn)).trans (hI.ag k hk), Nat.le_trans hI.hn g2, fun x hx => g3 x (hI.hb x hx), g4, g5, h1⟩ h2 h4) (hv hI.hm hI.hf A a w hI.hw hT)

def unl : List Bool → Nat
  | [] => 0
  | true :: r => unl r
  | false :: r => unl r + 1

theorem unl_set : ∀ {l : List Bool} {i : Nat}, l[i]? = some false → unl (l.set i true) + 1 = unl l
  | [], i, h => by simp at h
  | b :: r, 0, h => by simp at h; subst h; simp [unl]
  | b :: r, i + 1, h => by
    simp at h
    have := unl_set h
    cases b <;> simp [unl] <;> omega

theorem unl_ready {md : Region.Mode} {ops : Array Oper} {L : Array Bool} {i : Nat} (h : i ∈ Region.ready md ops L) : unl (L.setIfInBounds i true).toList + 1 = unl L.toList := by
  have h0 := (mem_ready.1 h).1
  have h1 : L.toList[i]? = some false := by
    rw [Array.getD_eq_getD_getElem?] at h0
    rw [Array.getElem?_toList]
    cases hx : L[i]? with
    | none => rw [hx] at h0; simp at h0
    | some b => rw [hx] at h0; simp at h0; rw [h0]
  rw [Array.toList_setIfInBounds]
  exact unl_set h1

theorem guardSt_go {A : Nat → Nat} {T : List (Nat × SV)} {n c : Nat} {a : Act} {w : World} (h : TD E A T n c a w) {ops : List Oper} {g : Option (Nat × Bool)} (hg : guardSt ops T g = .go) (o : Oper) (ho : o.guard = g) : Region.wanted o (yielded ops.toArray a.tmps) = true := by
  unfold guardSt at hg
  split at hg
  · simp [Region.wanted, ho]
  · rename_i j want
    split at hg
    · rename_i t b hgv
      have hy := (gval_yield h hgv (b := b) rfl).1
      split at hg <;> first | (cases hg; done) | simp [Region.wanted, ho, hy]
    · cases hg
    · cases hg
    · cases hg

theorem guardSt_no {A : Nat → Nat} {T : List (Nat × SV)} {n c : Nat} {a : Act} {w : World} (h : TD E A T n c a w) {ops : List Oper} {g : Option (Nat × Bool)} (hg : guardSt ops T g = .no) (o : Oper) (ho : o.guard = g) : Region.wanted o (yielded ops.toArray a.tmps) = false := by
  unfold guardSt at hg
  split at hg
  · cases hg
  · rename_i j want
    split at hg
    · rename_i t b hgv
      have hy := (gval_yield h hgv (b := b) rfl).1
      split at hg <;> first | (cases hg; done) | simp [Region.wanted, ho, hy]
    · cases hg
    · rename_i t xs hgv
      have hy := gval_none h hgv (xs := xs) rfl
      simp [Region.wanted, ho, hy]
    · cases hg

theorem guardSt_unk {A : Nat → Nat} {T : List (Nat × SV)} {n c : Nat} {a : Act} {w : World} (h : TD E A T n c a w) {ops : List Oper} {g : Option (Nat × Bool)} {t : Nat} {b : Bool} (hg : guardSt ops T g = .unk t b) : look T t = some (.v (.bool b)) := by
  unfold guardSt at hg
  split at hg
  · cases hg
  · rename_i j want
    split at hg
    · split at hg <;> cases hg
    · rename_i hgv
      have := (gval_yield h hgv (b := _) rfl).2
      cases hg
      exact this
    · cases hg
    · cases hg

/-- What a pick says. -/
theorem pick_spec {ti : Nat → TI} {ops : List Oper} {T : List (Nat × SV)} {c : Nat} {Ms : List ((Nat × Nat) × SV)} : ∀ (rs : List Nat),
    (∀ i d s, pickFrom ti ops T c Ms rs = .pure i d s → i ∈ rs ∧ ∃ o, ops[i]? = some o ∧ guardSt ops T o.guard = .go ∧ pureV ti T c Ms o.op = some s ∧ o.dst = d) ∧
    (∀ i d, pickFrom ti ops T c Ms rs = .skip i d → i ∈ rs ∧ ∃ o, ops[i]? = some o ∧ guardSt ops T o.guard = .no ∧ o.dst = d) ∧
    (∀ t b, pickFrom ti ops T c Ms rs = .split t b → ∃ o : Oper, guardSt ops T o.guard = .unk t b) ∧
    (∀ i o, pickFrom ti ops T c Ms rs = .idx i o → i ∈ rs ∧ ops[i]? = some o ∧ guardSt ops T o.guard = .go)
  | [] => ⟨fun _ _ _ h => (by cases h), fun _ _ h => (by cases h), fun _ _ h => (by cases h), fun _ _ h => (by cases h)⟩
  | i :: r => by
    have ih := pick_spec (ti := ti) (ops := ops) (T := T) (c := c) (Ms := Ms) r
    have up : (∀ j d s, pickFrom ti ops T c Ms r = .pure j d s → j ∈ i :: r ∧ ∃ o, ops[j]? = some o ∧ guardSt ops T o.guard = .go ∧ pureV ti T c Ms o.op = some s ∧ o.dst = d) ∧
        (∀ j d, pickFrom ti ops T c Ms r = .skip j d → j ∈ i :: r ∧ ∃ o, ops[j]? = some o ∧ guardSt ops T o.guard = .no ∧ o.dst = d) ∧
        (∀ t b, pickFrom ti ops T c Ms r = .split t b → ∃ o : Oper, guardSt ops T o.guard = .unk t b) ∧
        (∀ j o, pickFrom ti ops T c Ms r = .idx j o → j ∈ i :: r ∧ ops[j]? = some o ∧ guardSt ops T o.guard = .go) :=
      ⟨fun j d s h => ⟨List.mem_cons_of_mem _ (ih.1 j d s h).1, (ih.1 j d s h).2⟩, fun j d h => ⟨List.mem_cons_of_mem _ (ih.2.1 j d h).1, (ih.2.1 j d h).2⟩, ih.2.2.1, fun j o h => ⟨List.mem_cons_of_mem _ (ih.2.2.2 j o h).1, (ih.2.2.2 j o h).2⟩⟩
    simp only [pickFrom]
    cases ho : nth ops i with
    | none => exact up
    | some o =>
      rw [nth_eq] at ho
      dsimp only
      cases hg : guardSt ops T o.guard with
      | go =>
        dsimp only
        cases hp : pureV ti T c Ms o.op with
        | some s =>
          dsimp only
          refine ⟨fun j d s' h => ?_, fun _ _ h => (by cases h), fun _ _ h => (by cases h), fun _ _ h => (by cases h)⟩
          cases h
          exact ⟨by simp, o, ho, hg, hp, rfl⟩
        | none =>
          dsimp only
          cases hi : isIdx o.op with
          | true =>
            dsimp only
            refine ⟨fun _ _ _ h => (by cases h), fun _ _ h => (by cases h), fun _ _ h => (by cases h), fun j o' h => ?_⟩
            cases h
            exact ⟨by simp, ho, hg⟩
          | false => dsimp only; exact up
      | no =>
        dsimp only
        refine ⟨fun _ _ _ h => (by cases h), fun j d h => ?_, fun _ _ h => (by cases h), fun _ _ h => (by cases h)⟩
        cases h
        exact ⟨by simp, o, ho, hg, rfl⟩
      | unk t b =>
        dsimp only
        refine ⟨fun _ _ _ h => (by cases h), fun _ _ h => (by cases h), fun t' b' h => ?_, fun _ _ h => (by cases h)⟩
        cases h
        exact ⟨o, hg⟩
      | bad => dsimp only; exact up

theorem vcD_sound (hti : ∀ t, TIok E.P t (ti t)) {ops : List Oper} {A0 : Nat → Nat} {n0 : Nat} {B0 : List (Nat × TypeId × Nat)} {Ms : List ((Nat × Nat) × SV)} {Fs : List Fct} {K : St → Prop} {ws : World} (hs : WD E A0 n0 B0 Ms Fs ws) (hns : Region.noSelect ops.toArray = true) (hap : apartAll ops.toArray = true) :
    ∀ (f : Nat) (L : List Bool) (T : List (Nat × SV)) (n c : Nat) (B : List (Nat × TypeId × Nat)) (M : List ((Nat × Nat) × SV)) (F : List Fct) (A : Nat → Nat) (a : Act) (w : World) (k : Nat),
      vcD E ti ops n0 B0 Ms Fs K f L (.mk T n c B M F) → InvD E A0 n0 B0 Ms Fs A n B M F w → (∀ w2, WD E A0 n0 B0 Ms Fs w2 → TD E A T n c a w2) → unl L ≤ k →
      wpAnyH E.P .any ops.toArray (postD E K) (fun w => WD E A0 n0 B0 Ms Fs w) k L.toArray a w
  | 0, _, _, _, _, _, _, _, _, _, _, _, hv, _, _, _ => (hv : False).elim
  | f + 1, L, T, n, c, B, M, F, A, a, w, k, hv, hI, hT, hk => by
    have hS := hI.start hs
    have hTw := hT w hS
    have hloc : ∀ w2, WD E A0 n0 B0 Ms Fs w2 → WD E A n0 B0 Ms Fs w2 := fun w2 h => h.agree (fun k hk => (hI.ag k hk).symm)
    have hQ : ∀ (c : List PanicEntry) (a1 a2 : Act) (w : World), postD E K (.panic c) a1 w → postD E K (.panic c) a2 w := fun _ _ _ _ h => h
    have hset : ∀ i, L.toArray.setIfInBounds i true = (setB L i).toArray := fun i => by rw [setB_eq]; simp
    have hunl : ∀ i, i ∈ readyB L 0 ops L → unl (setB L i) + 1 = unl L := fun i hi => by
      have := unl_ready (mem_readyB.1 hi)
      rw [hset] at this
      simpa using this
    obtain ⟨p1, p2, p3, p4⟩ := pick_spec (ti := ti) (ops := ops) (T := T) (c := c) (Ms := Ms) (readyB L 0 ops L)
    simp only [vcD] at hv
    split at hv
    · rename_i i d s hp
      obtain ⟨hmem, o, ho, hg, hpv, hod⟩ := p1 i d s hp
      have hu := hunl i hmem
      have hmem' := mem_readyB.1 hmem
      obtain ⟨k', rfl⟩ : ∃ k', k = k' + 1 := ⟨k - 1, by omega⟩
      have hval : ∀ w2, WD E A0 n0 B0 Ms Fs w2 → OKV E A n c w2 ((execOp a.eval o).run E.P w2) s := fun w2 h2 =>
        pureV_sound hti (fun k o v hv => by
          obtain ⟨_, g1, g2⟩ := (hloc w2 h2).mem k o v hv
          exact ⟨g1, SV.small_more g2 hI.hn⟩) (hT w2 h2) hpv
      have hy : YieldsIf E.P ops.toArray (fun w => WD E A0 n0 B0 Ms Fs w) o (s.den A) a := .inl ⟨guardSt_go hTw hg o rfl, fun w2 h2 => (hval w2 h2).1⟩
      refine wpAnyH_take (by simpa using ho) hns (free_of_apart hap hmem') (by simpa using hmem') (fun c a w h => h) hy hS ?_
      rw [hset]
      split at hv
      · rename_i d
        split at hv
        · rename_i hdn
          rw [hod]
          exact vcD_sound hti hs hns hap f _ _ n c B M F A _ w k' hv hI (fun w2 h2 => (hT w2 h2).put (by simpa using hdn) (hval w2 h2).2) (by omega)
        · exact hv.elim
      · rw [hod]
        exact vcD_sound hti hs hns hap f _ _ n c B M F A _ w k' hv hI hT (by omega)
    · rename_i i d hp
      obtain ⟨hmem, o, ho, hg, hod⟩ := p2 i d hp
      have hu := hunl i hmem
      have hmem' := mem_readyB.1 hmem
      obtain ⟨k', rfl⟩ : ∃ k', k = k' + 1 := ⟨k - 1, by omega⟩
      have hy : YieldsIf E.P ops.toArray (fun w => WD E A0 n0 B0 Ms Fs w) o undef a := .inr ⟨guardSt_no hTw hg o rfl, rfl⟩
      refine wpAnyH_take (by simpa using ho) hns (free_of_apart hap hmem') (by simpa using hmem') (fun c a w h => h) hy hS ?_
      rw [hset]
      split at hv
      · rename_i d
        split at hv
        · rename_i hdn
          rw [hod]
          exact vcD_sound hti hs hns hap f _ _ n c B M F A _ w k' hv hI (fun w2 h2 => (hT w2 h2).put (v := .v undef) (by simpa using hdn) trivial) (by omega)
        · exact hv.elim
      · rw [hod]
        exact vcD_sound hti hs hns hap f _ _ n c B M F A _ w k' hv hI hT (by omega)
    · rename_i t b hp
      obtain ⟨o, hg⟩ := p3 t b hp
      have hl := guardSt_unk hTw hg
      cases b with
      | true => exact vcD_sound hti hs hns hap f _ _ n c B M F A _ w k (hv.t rfl) hI (fun w2 h2 => (hT w2 h2).lit hl) hk
      | false => exact vcD_sound hti hs hns hap f _ _ n c B M F A _ w k (hv.f rfl) hI (fun w2 h2 => (hT w2 h2).lit hl) hk
    · rename_i i o hp
      obtain ⟨hmem, ho, hg⟩ := p4 i o hp
      have hu := hunl i hmem
      have hmem' := mem_readyB.1 hmem
      obtain ⟨k', rfl⟩ : ∃ k', k = k' + 1 := ⟨k - 1, by omega⟩
      obtain ⟨s, h1, d, hd, hv⟩ := hv.out A
      have hy : YieldsIf E.P ops.toArray (fun w => WD E A0 n0 B0 Ms Fs w) o (s.den A) a := .inl ⟨guardSt_go hTw hg o rfl, fun w2 h2 => (h1 a w2 (hloc w2 h2) (hT w2 h2)).1⟩
      refine wpAnyH_take (by simpa using ho) hns (free_of_apart hap hmem') (by simpa using hmem') (fun c a w h => h) hy hS ?_
      rw [hd.1, hset]
      exact vcD_sound hti hs hns hap f _ _ n c B M F A _ w k' hv hI (fun w2 h2 => (hT w2 h2).put hd.lt (h1 a w2 (hloc w2 h2) (hT w2 h2)).2) (by omega)
    · split at hv
      · rename_i hr
        refine wpAnyH_done (List.eq_nil_iff_forall_not_mem.2 fun i hi => ?_) ⟨_, ⟨A, hI.hw, hTw⟩, hv⟩ k
        rw [← mem_readyB, hr] at hi
        cases hi
      · rename_i i0 r hr
        have hmem0 : i0 ∈ readyB L 0 ops L := by rw [hr]; simp
        have hu := hunl i0 hmem0
        obtain ⟨k', rfl⟩ : ∃ k', k = k' + 1 := ⟨k - 1, by omega⟩
        refine wpAnyH_all rfl (fun e => by have := mem_readyB.1 hmem0; rw [e] at this; cases this) fun i hi => ?_
        have hmem := mem_readyB.2 hi
        have hvi := allR_mem hv i (by rw [← hr]; exact hmem)
        have hui := hunl i hmem
        cases ho : nth ops i with
        | none => rw [ho] at hvi; exact hvi.elim
        | some o =>
          rw [ho] at hvi
          simp only at hvi
          rw [nth_eq] at ho
          split at hvi
          · rename_i hg
            unfold wpOp
            simp only [show ops.toArray[i]? = some o by simpa using ho, guardSt_go hTw hg o rfl, if_true]
            refine .inl (effD_sound hti hvi hI hs hTw ?_)
            intro A' T' n' c' B' M' F' a' w' hI' hT' hn
            rw [hset]
            exact ⟨hI'.start hs, vcD_sound hti hs hns hap f _ _ n' c' B' M' F' A' a' w' k' hn hI' (fun w2 _ => hT' w2) (by omega)⟩
          · exact hvi.elim

/-- Facts out of a state's, each by its number there. -/
def FK (F : List Fct) : List Nat → List Fct → Prop
  | [], [] => True
  | i :: ix, f :: r => F[i]? = some f ∧ FK F ix r
  | _, _ => False

theorem FK.fw {F : List Fct} : ∀ {ix : List Nat} {Fs : List Fct}, FK F ix Fs → FW F ix Fs
  | [], [], _ => trivial
  | [], _ :: _, h => h.elim
  | _ :: _, [], h => h.elim
  | _ :: _, _ :: _, h => ⟨.inl ⟨_, h.1, rfl⟩, FK.fw h.2⟩

theorem FK.keep {F : List Fct} : ∀ {ix : List Nat} {Fs : List Fct}, FK F ix Fs → keepF Fs F
  | [], [], _ => fun f hf => by cases hf
  | [], _ :: _, h => h.elim
  | _ :: _, [], h => h.elim
  | _ :: _, _ :: _, h => fun f hf => by
    rcases List.mem_cons.1 hf with rfl | hf
    · exact List.mem_of_getElem? h.1
    · exact FK.keep h.2 f hf

theorem unl_replicate : ∀ n : Nat, unl (List.replicate n false) = n
  | 0 => rfl
  | n + 1 => by simp [List.replicate_succ, unl, unl_replicate n]

/-- THE BEGINNING OF A REGION THAT DRAWS: Ms: the cells that nobody in the region writes and that it reads; ix: the facts that stand through it. -/
theorem draw_start {id : Nat} {ops : Array Oper} {T : List (Nat × SV)} {n c : Nat} {B : List (Nat × TypeId × Nat)} {M : List ((Nat × Nat) × SV)} {F : List Fct} {K : St → Prop} (hti : ∀ t, TIok E.P t (ti t)) (hm : E.P.follows .mixedOrders = true) (hns : Region.noSelect ops = true) (hap : apartAll ops = true)
    (fuel : Nat) (Ms : List ((Nat × Nat) × SV)) (ix : List Nat) (Fs : List Fct) (hM : MW M n Ms) (hMB : MBW B Ms) (hF : FK F ix Fs) (hix : nodupB ix = true)
    (hv : vcD E ti ops.toList n B Ms Fs K fuel (falses ops.toList) (.mk T n (c + 1) B M F)) :
    DrawW (∀ a w, Den E (.mk T n c B M F) a w → (Code.region id ops true).wp E.P (postD E K) a w) := by
  refine ⟨fun a w hd => ?_⟩
  obtain ⟨A, hW, hT⟩ := hd
  have hdr : Ext w { w with drawn := w.drawn + 1 } := ⟨rfl, rfl, rfl, Nat.le_refl _, fun _ _ _ => rfl⟩
  have hW' := hW.growExt hdr
  have hs : WD E A n B Ms Fs { w with drawn := w.drawn + 1 } := by
    have hp := hW'.pick ix hF.fw hix
    refine ⟨hp.key, hp.inj, fun k o v hv => ?_, hp.a0, hp.n0, hp.ext, hp.fct, hp.dj⟩
    obtain ⟨h1, h2⟩ := MW_all hM k o v hv
    exact ⟨MBW_all hMB k o v hv, (hp.mem k o v h1).2.1, h2⟩
  refine wp_region_held (S := fun w => WD E A n B Ms Fs w) hm ?_
  have := vcD_sound hti (ops := ops.toList) (K := K) hs (by simpa using hns) (by simpa using hap) fuel (falses ops.toList) T n (c + 1) B M F A a { w with drawn := w.drawn + 1 } ops.size hv
    ⟨fun _ _ => rfl, Nat.le_refl _, fun _ h => h, fun k o v hv => (MW_all hM k o v hv).1, hF.keep, hW'⟩ (fun w2 _ => hT.step w2) (by simp [falses_eq, unl_replicate])
  rw [Array.toArray_toList, falses_eq] at this
  simp only [Array.length_toList, List.toArray_replicate] at this
  exact this

/-- A region's many ends are brought to one form. -/
theorem draw_cut {id : Nat} {ops : Array Oper} {s : St} {K : St → Prop} (Y : Type) (S : Y → St)
    (h1 : DrawW (∀ a w, Den E s a w → (Code.region id ops true).wp E.P (postD E (fun s' => ∃ y, Weak E s' (S y))) a w)) (h2 : ∀ y, K (S y)) :
    DrawW (∀ a w, Den E s a w → (Code.region id ops true).wp E.P (postD E K) a w) := by
  refine ⟨fun a w hd => Code.wp_mono (fun e a w h => ?_) (h1.out a w hd)⟩
  cases e with
  | normal =>
    obtain ⟨s', hs, y, hw⟩ := h
    exact ⟨S y, hw _ _ hs, h2 y⟩
  | _ => exact h

end

section

variable {E : Env} {ti : Nat → TI} {A : Nat → Nat} {T : List (Nat × SV)} {n c : Nat} {B : List (Nat × TypeId × Nat)} {M Ms : List ((Nat × Nat) × SV)} {F Fs : List Fct} {o : Oper} {next : St → Prop}

/-- A call, in a region that draws. -/
theorem d_call (R : Value → List Fct → Prop) {k : Call} {fo : Operand} {g : FuncId} {cap : List (Nat × Nat)} {l : List SV} {d : Nat} (hc : callable E.P g = true)
    (hop : o.op = .call k) (hk : k.callee = .value fo) (hf : evalO T fo = some (.f g cap)) (ha : evalOs T k.args.toList = some l) (hd : Dst E o d)
    (hcall : ∀ A w, WD E A n B M F w → Calls E.P g ((l.map (SV.den A)) ++ cap.map (fun x => ptr A x.1 x.2)).toArray w (Ret w R))
    (hnext : ∀ v L, R v L → next (.mk ((d, .v v) :: T) n (c + 1) B M (L ++ F))) :
    OpW (opD E o Ms Fs next T n c B M F) := by
  refine ⟨opD0.up fun hkf A a w hW hT => ?_⟩
  have hargs : (k.args.map a.eval).toList = l.map (SV.den A) := by rw [Array.toList_map]; exact evalOs_sound hT ha
  have hfv := (evalO_sound hT hf).1
  have hr : (execOp a.eval o).run E.P w = .ok (.enter g ((l.map (SV.den A)) ++ cap.map (fun x => ptr A x.1 x.2)).toArray) w := by
    have hcat : (k.args.map a.eval) ++ (cap.map (fun x => ptr A x.1 x.2)).toArray = ((l.map (SV.den A)) ++ cap.map (fun x => ptr A x.1 x.2)).toArray := by
      apply Array.ext'; rw [Array.toList_append, hargs]
    simp only [execOp, hop, resolve, hk, Sem.run_bind, hfv, SV.den, Deferred.ofValue, Sem.run_pure, Result.andThen_ok, Array.empty_append, invoke, hcat, run_callFunc hc]
  unfold Oper.wp
  rw [hr, Oper.upon_enter]
  refine (hcall A w hW).mono ?_
  rintro e w' ⟨v, L, rfl, he, hL, hR⟩
  refine ⟨_, _, _, hW.learn he hL, fun w2 => ?_, fun f hf => List.mem_append_right _ (hkf f hf), hnext v L hR⟩
  rw [hd.1]
  exact (hT.step w2).put (v := .v v) hd.lt trivial

/-- append, in a region that draws. -/
theorem d_app {α : Type} {enc : α → List Value} {sz : Nat} (he : Enc enc sz) (k1 : Nat) {xs ys : List α} {i j : Sl} {k : Call} {t e : TypeId} {x y : Operand} {d : Nat} {agg : Bool} {size : Nat} {zero : List Value} {fs : List (Nat × Nat × Bool)} {ik : Option IntKind} {kk bytes : Nat} {agg2 : Bool} {zero2 : List Value} {fs2 : List (Nat × Nat × Bool)} {el2 : Option TypeId} {ik2 : Option IntKind} {kk2 bytes2 : Nat}
    (hti : ∀ t, TIok E.P t (ti t)) (hop : o.op = .call k) (hk : k.callee = .builtin .append) (ha : k.args.toList = [x, y]) (hty : k.argTypes.toList = [t, t])
    (hx : evalO T x = some (.v (i.val xs.length))) (hy : evalO T y = some (.v (j.val ys.length)))
    (ht : ti t = .mk agg size zero fs (some e) ik kk bytes) (hte : ti e = .mk agg2 sz zero2 fs2 el2 ik2 kk2 bytes2) (hz2 : listLen zero2 = sz) (hsz0 : 0 < sz) (hd : Dst E o d)
    (hF1 : F[k1]? = some (own i e enc sz xs)) (hF2 : ∀ w, (∀ f ∈ F, f.P w) → RdS w j sz (cells enc ys) ys.length)
    (hb : (xs.length + ys.length) * bytes2 ≤ 140737488355328) (hm : xs.length + ys.length ≤ maxLen)
    (hkeep : keepF Fs F → keepF Fs (F.eraseIdx k1)) (hnext : ∀ y : Sl, next (.mk ((d, .v (y.val (xs ++ ys).length)) :: T) n (c + 1) B M (own y e enc sz (xs ++ ys) :: F.eraseIdx k1))) :
    OpW (opD E o Ms Fs next T n c B M F) := by
  refine ⟨opD0.up fun hkf A a w hW hT => ?_⟩
  have htt := hti t
  rw [ht] at htt
  obtain ⟨ii, dd, z, e1, e2, e3, e4, e5, e6, e7, e8, e9, e10, e11⟩ := tiSum_parts htt
  have htt2 := hti e
  rw [hte] at htt2
  obtain ⟨ii2, dd2, z2, g1, g2, g3, g4, g5, g6, g7, g8, g9, g10, g11⟩ := tiSum_parts htt2
  have hdd := el_slice e8
  have hown := (hW.nth k1 hF1).1
  have hrd := hF2 w (fun f hf => (hW.fct f hf).1)
  have hz : z2.cells.size = sz := by rw [← hz2, listLen_eq, ← g6]; simp
  obtain ⟨y', w', h1, h2, h3, h4⟩ := run_app (P := E.P) w o.type (by rw [e2, hdd]) g1 g5 g4 hz hsz0 hown hrd (cells_one he ys) (by rw [g11]; exact hb) hm
  have hr : (execOp a.eval o).run E.P w = .ok (.value (y'.val (xs.length + ys.length))) w' := by
    have hargs : k.args = #[x, y] := by apply Array.ext'; simpa using ha
    have htys : k.argTypes = #[t, t] := by apply Array.ext'; simpa using hty
    have hx' : a.eval x = i.val xs.length := (evalO_sound hT hx).1
    have hy' : a.eval y = j.val ys.length := (evalO_sound hT hy).1
    simp only [execOp, hop, resolve, hk, hargs, htys, Sem.run_bind, Sem.run_pure, Result.andThen_ok, invoke, builtin, List.map_toArray, List.map_cons, List.map_nil, hx', hy', h1]
  refine upon_of_value hr ?_
  rw [hd.1]
  have hn := hnext y'
  rw [List.length_append] at hn
  refine ⟨_, _, _, ?_, fun w2 => (hT.step w2).put (v := .v (y'.val (xs.length + ys.length))) hd.lt trivial, fun f hf => List.mem_cons_of_mem _ (hkeep hkf f hf), hn⟩
  have := hW.turn hF1 h3 (ds := cells enc xs ++ cells enc ys) h2 h4
  rw [← cells_append] at this
  show WD E A n B M (fOwn false y' e sz (cells enc (xs ++ ys)) (xs ++ ys).length :: F.eraseIdx k1) w'
  rw [List.length_append]
  exact this

/-- An index, in a region that draws. -/
theorem d_idx {α : Type} {enc : α → List Value} {sz : Nat} (he : Enc enc sz) {t e : TypeId} {x ix : Operand} {i : Sl} {xs : List α} {kd : IntKind} {m : Int} {d : Nat} {agg : Bool} {size : Nat} {zero : List Value} {fs : List (Nat × Nat × Bool)} {ik : Option IntKind} {kk bytes : Nat} {agg2 : Bool} {zero2 : List Value} {fs2 : List (Nat × Nat × Bool)} {el2 : Option TypeId} {ik2 : Option IntKind} {kk2 bytes2 : Nat}
    (hti : ∀ t, TIok E.P t (ti t)) (hop : o.op = .indexAddr t x ix) (hx : evalO T x = some (.v (i.val xs.length))) (hix : evalO T ix = some (.v (.int kd m)))
    (ht : ti t = .mk agg size zero fs (some e) ik kk bytes) (hte : ti e = .mk agg2 sz zero2 fs2 el2 ik2 kk2 bytes2) (hd : Dst E o d)
    (hF : ∀ w, (∀ f ∈ Fs, f.P w) → RdS w i sz (cells enc xs) xs.length) (j : Nat) (hj : m = (j : Int)) (hlt : j < xs.length) {n0 : Nat} {B0 : List (Nat × TypeId × Nat)}
    (hnext : ∀ ad : Addr, next (.mk ((d, .e c ad (enc xs[j]) 0) :: T) n c B M F)) :
    OpW (∀ A, ∃ s : SV, (∀ a w, WD E A n0 B0 Ms Fs w → TD E A T n c a w → (execOp a.eval o).run E.P w = .ok (.value (s.den A)) w ∧ s.okT n c w) ∧ (∃ d, Dst E o d ∧ next (.mk ((d, s) :: T) n c B M F))) := by
  refine ⟨fun A => ?_⟩
  by_cases hex : ∃ ad, i.a = some ad
  · obtain ⟨ad, had⟩ := hex
    refine ⟨.e c (ad.add (j * sz)) (enc xs[j]) 0, fun a w hW hT => ?_, d, hd, hnext _⟩
    obtain ⟨h1, h2, h3, h4⟩ := hF w (fun f hf => (hW.fct f hf).1)
    obtain ⟨ad', had', hcs⟩ := h4 (by omega)
    rw [had] at had'
    injection had' with had'
    subst had'
    have htt := hti t
    rw [ht] at htt
    obtain ⟨ii, dd, z, e1, e2, e3, e4, e5, e6, e7, e8, e9, e10, e11⟩ := tiSum_parts htt
    have htt2 := hti e
    rw [hte] at htt2
    obtain ⟨ii2, dd2, z2, k1, k2, k3, k4, k5, k6, k7, k8, k9, k10, k11⟩ := tiSum_parts htt2
    have hdd := el_slice e8
    subst hj
    refine ⟨?_, Nat.le_refl _, fun _ q u hu => by
      rw [addr_add_add]
      exact hcs _ u (cells_at he hlt hu)⟩
    have hx' : a.eval x = .slice (some ad) xs.length i.c := by rw [(evalO_sound hT hx).1]; simp [SV.den, Sl.val, had]
    have hix' : a.eval ix = .int kd j := (evalO_sound hT hix).1
    simp [execOp, hop, Instr.indexAt, hx', hix', asIntOf, underlying, e2, hdd, run_sizeOf k1, k4, hlt, SV.den]
    simp [Addr.add]
  · refine ⟨.e c ⟨0, 0, none⟩ (enc xs[j]) 0, fun a w hW hT => ?_, d, hd, hnext _⟩
    obtain ⟨h1, h2, h3, h4⟩ := hF w (fun f hf => (hW.fct f hf).1)
    obtain ⟨ad', had', hcs⟩ := h4 (by omega)
    exact absurd ⟨ad', had'⟩ hex

end

end Go.Sx

namespace Go.Proofs.Ytjkkoonennpceaa

open Go Go.Sx Go.RowKit

def isThread (t : Int) : Bool := decide (0 ≤ t) && decide (t < 6)

def isValue (t : Int) : Bool := decide (0 ≤ t) && decide (t ≤ 99)

structure Letter where
  t : Int
  v : Int
  deriving DecidableEq

def cLet (l : Letter) : List Value := [.int .i64 l.t, .int .i64 l.v]

theorem encLet : Enc cLet 2 := ⟨fun _ => rfl, fun _ u hu => by simp [cLet] at hu; rcases hu with rfl | rfl <;> rfl⟩

structure Chan where
  room : Int
  items : List Int
  senders : List Letter
  getters : List Int
  closed : Bool
  deriving DecidableEq

def chanV (m : Chan) (i s g : Sl) : Value := .agg #[.int .i64 m.room, i.val m.items.length, s.val m.senders.length, g.val m.getters.length, .bool m.closed]

def Chan.small (m : Chan) : Prop := m.items.length ≤ 4294967296 ∧ m.senders.length ≤ 4294967296 ∧ m.getters.length ≤ 4294967296

def Chan.threads (m : Chan) : List Int := m.senders.map (·.t) ++ m.getters

set_option maxRecDepth 100000 in
theorem isThread_c (t : Int) (w : World) : Calls Try.prog 52 #[.int .i64 t] w (Ret w fun v L => v = .bool (isThread t) ∧ L = []) := by
  refine calls1 Try.func52 rfl tabOk w _ rfl _ rfl [] trivial trivial _ (by decide) ?_
  refine CaseB.mk (fun h => ?_) (fun h => ?_)
  all_goals
    refine retw [] ⟨?_, rfl⟩ trivial rfl trivial (fun _ => rfl)
    simp [isThread] at h ⊢
    omega

set_option maxRecDepth 100000 in
theorem isValue_c (t : Int) (w : World) : Calls Try.prog 36 #[.int .i64 t] w (Ret w fun v L => v = .bool (isValue t) ∧ L = []) := by
  refine calls1 Try.func36 rfl tabOk w _ rfl _ rfl [] trivial trivial _ (by decide) ?_
  refine CaseB.mk (fun h => ?_) (fun h => ?_)
  all_goals
    refine retw [] ⟨?_, rfl⟩ trivial rfl trivial (fun _ => rfl)
    simp [isValue] at h ⊢
    omega

theorem wrapN (k n : Nat) (h : k < n) (hn : n ≤ 4294967296) : IntKind.i64.wrap ((k : Int) + 1) = ((k + 1 : Nat) : Int) := by
  rw [IntKind.wrap_i64]; omega

set_option maxRecDepth 100000 in
theorem threads_c (m : Chan) (i s g : Sl) (w : World) (h : At w [slo i cInt 1 m.items, slo s cLet 2 m.senders, slo g cInt 1 m.getters]) (hb : m.small) :
    Calls Try.prog 51 #[chanV m i s g] w (Ret w fun v L => ∃ y : Sl, v = y.val m.threads.length ∧ L = [own y 3 cInt 1 m.threads]) := by
  obtain ⟨b1, b2, b3⟩ := hb
  refine calls1 Try.func51 rfl tabOk w _ rfl _ rfl _ h ⟨rfl, rfl, rfl, rfl, rfl, rfl, trivial⟩ _ (by decide) ?_
  refine LoopW.mk ⟨{ p : Nat × Sl // p.1 ≤ m.senders.length },
    fun p => .mk [(1, .p 0 0), (3, .v (p.1.2.val ((m.senders.take p.1.1).map Letter.t).length)), (7, .v (s.val m.senders.length)), (8, .v (.int .i64 m.senders.length)), (9, .v (.int .i64 p.1.1))] 1 0 [(0, 52, 5)] [((0, 3), .v (g.val m.getters.length))] [own p.1.2 3 cInt 1 ((m.senders.take p.1.1).map Letter.t), slo s cLet 2 m.senders, slo g cInt 1 m.getters],
    fun p => m.senders.length - p.1.1, ⟨(0, ⟨none, 0⟩), Nat.zero_le _⟩, ?_, ?_⟩
  · refine weak_mk [99, 1, 2] ?_ ?_ ?_ ?_ ?_ rfl rfl
    · repeat (first | exact trivial | refine ⟨⟨_, rfl, (by first | exact .of rfl | exact .lit rfl | exact .of (by first | (rfl)) | exact .lit (by first | (rfl))), (by first | exact trivial | exact Nat.le_of_ble_eq_true rfl | exact small1 rfl)⟩, ?_⟩)
    · repeat (first | exact trivial | refine ⟨⟨(by first | exact .head _ | exact .tail _ (.head _) | exact .tail _ (.tail _ (.head _)) | exact .tail _ (.tail _ (.tail _ (.head _))) | exact .tail _ (.tail _ (.tail _ (.tail _ (.head _)))) | exact .tail _ (.tail _ (.tail _ (.tail _ (.tail _ (.head _))))) | exact .tail _ (.tail _ (.tail _ (.tail _ (.tail _ (.tail _ (.head _)))))) | exact .tail _ (.tail _ (.tail _ (.tail _ (.tail _ (.tail _ (.tail _ (.head _))))))) | exact .tail _ (.tail _ (.tail _ (.tail _ (.tail _ (.tail _ (.tail _ (.tail _ (.head _)))))))) | exact .tail _ (.tail _ (.tail _ (.tail _ (.tail _ (.tail _ (.tail _ (.tail _ (.tail _ (.head _)))))))))), Nat.le_of_ble_eq_true rfl⟩, ?_⟩)
    · repeat (first | exact trivial | refine ⟨⟨_, rfl, (by first | exact .of rfl | exact .lit rfl | exact .of (by first | (rfl)) | exact .lit (by first | (rfl))), (by first | exact trivial | exact Nat.le_of_ble_eq_true rfl | exact small1 rfl)⟩, ?_⟩)
    · repeat (first | exact trivial | refine ⟨⟨_, rfl⟩, ?_⟩)
    · repeat (first | exact trivial | refine ⟨.inl ⟨_, rfl, (by first | rfl | (rfl))⟩, ?_⟩ | refine ⟨.inr ⟨Nat.le_of_ble_eq_true rfl, rfl, rfl, rfl, rfl⟩, ?_⟩)
  · rintro ⟨⟨k, out⟩, hk⟩
    simp only at hk
    refine CaseB.mk (fun h => ?_) (fun h => ?_)
    · have hlt : k < m.senders.length := by simpa using h
      have hT : (m.senders.take (k + 1)).map Letter.t = (m.senders.take k).map Letter.t ++ [m.senders[k].t] := by
        rw [List.take_succ_eq_append_getElem hlt, List.map_append]; rfl
      refine stop_idx encLet tabOk rfl rfl rfl rfl rfl ⟨rfl, rfl⟩ (by first | exact rdAt 0 rfl | exact rdOwnAt 0 rfl | exact rdAt 1 rfl | exact rdOwnAt 1 rfl | exact rdAt 2 rfl | exact rdOwnAt 2 rfl | exact rdAt 3 rfl | exact rdOwnAt 3 rfl | exact rdAt 4 rfl | exact rdOwnAt 4 rfl | exact rdAt 5 rfl | exact rdOwnAt 5 rfl | exact rdAt 6 rfl | exact rdOwnAt 6 rfl | exact rdAt 7 rfl | exact rdOwnAt 7 rfl | exact rdAt 8 rfl | exact rdOwnAt 8 rfl | exact rdAt 9 rfl | exact rdOwnAt 9 rfl | exact rdAt 10 rfl | exact rdOwnAt 10 rfl | exact rdAt 11 rfl | exact rdOwnAt 11 rfl | exact rdAt 12 rfl | exact rdOwnAt 12 rfl | exact rdAt 13 rfl | exact rdOwnAt 13 rfl | exact rdAt 14 rfl | exact rdOwnAt 14 rfl | exact rdAt 15 rfl | exact rdOwnAt 15 rfl | exact rdAt 16 rfl | exact rdOwnAt 16 rfl | exact rdAt 17 rfl | exact rdOwnAt 17 rfl | exact rdAt 18 rfl | exact rdOwnAt 18 rfl | exact rdAt 19 rfl | exact rdOwnAt 19 rfl | exact rdAt 20 rfl | exact rdOwnAt 20 rfl | exact rdAt 21 rfl | exact rdOwnAt 21 rfl | exact rdAt 22 rfl | exact rdOwnAt 22 rfl | exact rdAt 23 rfl | exact rdOwnAt 23 rfl) k rfl (by first | omega | (simp; done) | (simp; omega) | (unfold maxLen; omega) | (unfold maxLen; simp; done) | (unfold maxLen; simp; omega)) (fun ad => ?_)
      refine AllSl.mk fun y => ?_
      refine stop_app encInt 1 tabOk (ys := [m.senders[k].t]) rfl rfl rfl rfl rfl rfl rfl rfl rfl (by decide) ⟨rfl, rfl⟩ rfl (by first | exact rdAt 0 rfl | exact rdOwnAt 0 rfl | exact rdAt 1 rfl | exact rdOwnAt 1 rfl | exact rdAt 2 rfl | exact rdOwnAt 2 rfl | exact rdAt 3 rfl | exact rdOwnAt 3 rfl | exact rdAt 4 rfl | exact rdOwnAt 4 rfl | exact rdAt 5 rfl | exact rdOwnAt 5 rfl | exact rdAt 6 rfl | exact rdOwnAt 6 rfl | exact rdAt 7 rfl | exact rdOwnAt 7 rfl | exact rdAt 8 rfl | exact rdOwnAt 8 rfl | exact rdAt 9 rfl | exact rdOwnAt 9 rfl | exact rdAt 10 rfl | exact rdOwnAt 10 rfl | exact rdAt 11 rfl | exact rdOwnAt 11 rfl | exact rdAt 12 rfl | exact rdOwnAt 12 rfl | exact rdAt 13 rfl | exact rdOwnAt 13 rfl | exact rdAt 14 rfl | exact rdOwnAt 14 rfl | exact rdAt 15 rfl | exact rdOwnAt 15 rfl | exact rdAt 16 rfl | exact rdOwnAt 16 rfl | exact rdAt 17 rfl | exact rdOwnAt 17 rfl | exact rdAt 18 rfl | exact rdOwnAt 18 rfl | exact rdAt 19 rfl | exact rdOwnAt 19 rfl | exact rdAt 20 rfl | exact rdOwnAt 20 rfl | exact rdAt 21 rfl | exact rdOwnAt 21 rfl | exact rdAt 22 rfl | exact rdOwnAt 22 rfl | exact rdAt 23 rfl | exact rdOwnAt 23 rfl) (by first | omega | (simp; done) | (simp; omega) | (unfold maxLen; omega) | (unfold maxLen; simp; done) | (unfold maxLen; simp; omega)) (by first | omega | (simp; done) | (simp; omega) | (unfold maxLen; omega) | (unfold maxLen; simp; done) | (unfold maxLen; simp; omega)) (fun z => ?_)
      refine ⟨⟨(k + 1, z), by omega⟩, ?_, by simp; omega⟩
      have hw := wrapN k _ hlt b2
      refine weak_mk [0, 2, 3] ?_ ?_ ?_ ?_ ?_ rfl rfl
      · repeat (first | exact trivial | refine ⟨⟨_, rfl, (by first | exact .of rfl | exact .lit rfl | exact .of (by first | ((first | (rw [hT]; done) | (simp only; done) | exact congrArg (fun z => SV.v (Value.int .i64 z)) hw))) | exact .lit (by first | ((first | (rw [hT]; done) | (simp only [hT]; done) | exact congrArg (fun z => SV.v (Value.int .i64 z)) hw)))), (by first | exact trivial | exact Nat.le_of_ble_eq_true rfl | exact small1 rfl)⟩, ?_⟩)
      · repeat (first | exact trivial | refine ⟨⟨(by first | exact .head _ | exact .tail _ (.head _) | exact .tail _ (.tail _ (.head _)) | exact .tail _ (.tail _ (.tail _ (.head _))) | exact .tail _ (.tail _ (.tail _ (.tail _ (.head _)))) | exact .tail _ (.tail _ (.tail _ (.tail _ (.tail _ (.head _))))) | exact .tail _ (.tail _ (.tail _ (.tail _ (.tail _ (.tail _ (.head _)))))) | exact .tail _ (.tail _ (.tail _ (.tail _ (.tail _ (.tail _ (.tail _ (.head _))))))) | exact .tail _ (.tail _ (.tail _ (.tail _ (.tail _ (.tail _ (.tail _ (.tail _ (.head _)))))))) | exact .tail _ (.tail _ (.tail _ (.tail _ (.tail _ (.tail _ (.tail _ (.tail _ (.tail _ (.head _)))))))))), Nat.le_of_ble_eq_true rfl⟩, ?_⟩)
      · repeat (first | exact trivial | refine ⟨⟨_, rfl, (by first | exact .of rfl | exact .lit rfl | exact .of (by first | ((first | (rw [hT]; done) | (simp only [hT]; done) | exact congrArg (fun z => SV.v (Value.int .i64 z)) hw))) | exact .lit (by first | ((first | (rw [hT]; done) | (simp only [hT]; done) | exact congrArg (fun z => SV.v (Value.int .i64 z)) hw)))), (by first | exact trivial | exact Nat.le_of_ble_eq_true rfl | exact small1 rfl)⟩, ?_⟩)
      · repeat (first | exact trivial | refine ⟨⟨_, rfl⟩, ?_⟩)
      · repeat (first | exact trivial | refine ⟨.inl ⟨_, rfl, (by first | rfl | ((first | (rw [hT]; done) | (simp only [hT]; done) | exact congrArg (fun z => SV.v (Value.int .i64 z)) hw)))⟩, ?_⟩ | refine ⟨.inr ⟨Nat.le_of_ble_eq_true rfl, rfl, rfl, rfl, rfl⟩, ?_⟩)
    · have hge : m.senders.length ≤ k := by simpa using h
      have hT : (m.senders.take k).map Letter.t = m.senders.map Letter.t := by rw [List.take_of_length_le hge]
      refine stop_appK encInt tabOk  rfl rfl rfl rfl rfl rfl rfl rfl rfl (by decide) ⟨rfl, rfl⟩ (by first | exact isAt 0 rfl | exact isAt 1 rfl | exact isAt 2 rfl | exact isAt 3 rfl | exact isAt 4 rfl | exact isAt 5 rfl | exact isAt 6 rfl | exact isAt 7 rfl | exact isAt 8 rfl | exact isAt 9 rfl | exact isAt 10 rfl | exact isAt 11 rfl) (by first | exact rdAt 0 rfl | exact rdOwnAt 0 rfl | exact rdAt 1 rfl | exact rdOwnAt 1 rfl | exact rdAt 2 rfl | exact rdOwnAt 2 rfl | exact rdAt 3 rfl | exact rdOwnAt 3 rfl | exact rdAt 4 rfl | exact rdOwnAt 4 rfl | exact rdAt 5 rfl | exact rdOwnAt 5 rfl | exact rdAt 6 rfl | exact rdOwnAt 6 rfl | exact rdAt 7 rfl | exact rdOwnAt 7 rfl | exact rdAt 8 rfl | exact rdOwnAt 8 rfl | exact rdAt 9 rfl | exact rdOwnAt 9 rfl | exact rdAt 10 rfl | exact rdOwnAt 10 rfl | exact rdAt 11 rfl | exact rdOwnAt 11 rfl | exact rdAt 12 rfl | exact rdOwnAt 12 rfl | exact rdAt 13 rfl | exact rdOwnAt 13 rfl | exact rdAt 14 rfl | exact rdOwnAt 14 rfl | exact rdAt 15 rfl | exact rdOwnAt 15 rfl | exact rdAt 16 rfl | exact rdOwnAt 16 rfl | exact rdAt 17 rfl | exact rdOwnAt 17 rfl | exact rdAt 18 rfl | exact rdOwnAt 18 rfl | exact rdAt 19 rfl | exact rdOwnAt 19 rfl | exact rdAt 20 rfl | exact rdOwnAt 20 rfl | exact rdAt 21 rfl | exact rdOwnAt 21 rfl | exact rdAt 22 rfl | exact rdOwnAt 22 rfl | exact rdAt 23 rfl | exact rdOwnAt 23 rfl) (by first | omega | (simp; done) | (simp; omega) | (unfold maxLen; omega) | (unfold maxLen; simp; done) | (unfold maxLen; simp; omega)) (by first | omega | (simp; done) | (simp; omega) | (unfold maxLen; omega) | (unfold maxLen; simp; done) | (unfold maxLen; simp; omega)) (fun z => ?_)
      exact retw [0] ⟨z, rfl, rfl⟩ ⟨.inl ⟨_, rfl, (by first | rfl | ((simp only [hT, Chan.threads])))⟩, trivial⟩ rfl ⟨rfl, trivial⟩ (fun _ => (by first | rfl | ((simp only [hT, Chan.threads, resV, SV.den]))))

end Go.Proofs.Ytjkkoonennpceaa

namespace Go.Proofs.Ytjkkoonennpceaa

open Go Go.Sx Go.RowKit

/-- Lists equal up to place k. -/
theorem take_eq_succ {α : Type} {xs ys : List α} {k : Nat} (h : xs.take k = ys.take k) (hx : k < xs.length) (hy : k < ys.length) : (xs[k] = ys[k] → xs.take (k + 1) = ys.take (k + 1)) ∧ (xs[k] ≠ ys[k] → xs ≠ ys) := by
  refine ⟨fun e => by rw [List.take_succ_eq_append_getElem hx, List.take_succ_eq_append_getElem hy, h, e], fun e he => ?_⟩
  subst he
  exact e rfl

set_option maxRecDepth 100000 in
theorem eqInts_c (i j : Sl) (xs ys : List Int) (w : World) (h : At w [slo i cInt 1 xs, slo j cInt 1 ys]) (hb : xs.length ≤ 4294967296) (hb2 : ys.length ≤ 4294967296) :
    Calls Try.prog 19 #[i.val xs.length, j.val ys.length] w (Ret w fun v L => v = .bool (decide (xs = ys)) ∧ L = []) := by
  refine calls2 Try.func19 rfl tabOk w _ rfl _ rfl _ h ⟨rfl, rfl, rfl, rfl, trivial⟩ _ _ (by decide) ?_
  refine CaseB.mk (fun h => ?_) (fun h => ?_)
  · have hne : xs ≠ ys := by rintro rfl; simp at h
    refine retw [] ⟨?_, rfl⟩ trivial rfl trivial (fun _ => rfl)
    simp [hne]
  · have hl : xs.length = ys.length := by simp at h; omega
    refine LoopW.mk ⟨{ k : Nat // k ≤ xs.length ∧ xs.take k = ys.take k },
      fun p => .mk [(0, .v (i.val xs.length)), (1, .v (j.val ys.length)), (12, .v (.int .i64 xs.length)), (13, .v (.int .i64 p.1))] 0 0 [] [] [slo i cInt 1 xs, slo j cInt 1 ys],
      fun p => xs.length - p.1, ⟨0, Nat.zero_le _, rfl⟩, ?_, ?_⟩
    · refine weak_mk [0, 1] ?_ ?_ ?_ ?_ ?_ rfl rfl
      · repeat (first | exact trivial | refine ⟨⟨_, rfl, (by first | exact .of rfl | exact .lit rfl | exact .of (by first | (rfl)) | exact .lit (by first | (rfl))), (by first | exact trivial | exact Nat.le_of_ble_eq_true rfl | exact small1 rfl)⟩, ?_⟩)
      · repeat (first | exact trivial | refine ⟨⟨(by first | exact .head _ | exact .tail _ (.head _) | exact .tail _ (.tail _ (.head _)) | exact .tail _ (.tail _ (.tail _ (.head _))) | exact .tail _ (.tail _ (.tail _ (.tail _ (.head _)))) | exact .tail _ (.tail _ (.tail _ (.tail _ (.tail _ (.head _))))) | exact .tail _ (.tail _ (.tail _ (.tail _ (.tail _ (.tail _ (.head _)))))) | exact .tail _ (.tail _ (.tail _ (.tail _ (.tail _ (.tail _ (.tail _ (.head _))))))) | exact .tail _ (.tail _ (.tail _ (.tail _ (.tail _ (.tail _ (.tail _ (.tail _ (.head _)))))))) | exact .tail _ (.tail _ (.tail _ (.tail _ (.tail _ (.tail _ (.tail _ (.tail _ (.tail _ (.head _)))))))))), Nat.le_of_ble_eq_true rfl⟩, ?_⟩)
      · repeat (first | exact trivial | refine ⟨⟨_, rfl, (by first | exact .of rfl | exact .lit rfl | exact .of (by first | (rfl)) | exact .lit (by first | (rfl))), (by first | exact trivial | exact Nat.le_of_ble_eq_true rfl | exact small1 rfl)⟩, ?_⟩)
      · repeat (first | exact trivial | refine ⟨⟨_, rfl⟩, ?_⟩)
      · repeat (first | exact trivial | refine ⟨.inl ⟨_, rfl, (by first | rfl | (rfl))⟩, ?_⟩ | refine ⟨.inr ⟨Nat.le_of_ble_eq_true rfl, rfl, rfl, rfl, rfl⟩, ?_⟩)
    · rintro ⟨k, hk, he⟩
      refine CaseB.mk (fun h => ?_) (fun h => ?_)
      · have hlt : k < xs.length := by simpa using h
        have hlt2 : k < ys.length := by omega
        obtain ⟨q1, q2⟩ := take_eq_succ he hlt hlt2
        refine draw_start tabOk (by kernel_rfl) (by kernel_rfl) (by kernel_rfl) 200 [] [0, 1] [_, _] trivial trivial ⟨rfl, rfl, trivial⟩ rfl ?_
        refine d_idx (ti := tiOf tab) encInt tabOk rfl rfl rfl rfl rfl ⟨rfl, rfl⟩ (by first | exact rdAt 0 rfl | exact rdOwnAt 0 rfl | exact rdAt 1 rfl | exact rdOwnAt 1 rfl | exact rdAt 2 rfl | exact rdOwnAt 2 rfl | exact rdAt 3 rfl | exact rdOwnAt 3 rfl | exact rdAt 4 rfl | exact rdOwnAt 4 rfl | exact rdAt 5 rfl | exact rdOwnAt 5 rfl | exact rdAt 6 rfl | exact rdOwnAt 6 rfl | exact rdAt 7 rfl | exact rdOwnAt 7 rfl | exact rdAt 8 rfl | exact rdOwnAt 8 rfl | exact rdAt 9 rfl | exact rdOwnAt 9 rfl | exact rdAt 10 rfl | exact rdOwnAt 10 rfl | exact rdAt 11 rfl | exact rdOwnAt 11 rfl | exact rdAt 12 rfl | exact rdOwnAt 12 rfl | exact rdAt 13 rfl | exact rdOwnAt 13 rfl | exact rdAt 14 rfl | exact rdOwnAt 14 rfl | exact rdAt 15 rfl | exact rdOwnAt 15 rfl | exact rdAt 16 rfl | exact rdOwnAt 16 rfl | exact rdAt 17 rfl | exact rdOwnAt 17 rfl | exact rdAt 18 rfl | exact rdOwnAt 18 rfl | exact rdAt 19 rfl | exact rdOwnAt 19 rfl | exact rdAt 20 rfl | exact rdOwnAt 20 rfl | exact rdAt 21 rfl | exact rdOwnAt 21 rfl | exact rdAt 22 rfl | exact rdOwnAt 22 rfl | exact rdAt 23 rfl | exact rdOwnAt 23 rfl) k rfl (by first | omega | (simp; done) | (simp; omega) | (unfold maxLen; omega) | (unfold maxLen; simp; done) | (unfold maxLen; simp; omega)) (fun ad => ?_)
        refine d_idx (ti := tiOf tab) encInt tabOk rfl rfl rfl rfl rfl ⟨rfl, rfl⟩ (by first | exact rdAt 0 rfl | exact rdOwnAt 0 rfl | exact rdAt 1 rfl | exact rdOwnAt 1 rfl | exact rdAt 2 rfl | exact rdOwnAt 2 rfl | exact rdAt 3 rfl | exact rdOwnAt 3 rfl | exact rdAt 4 rfl | exact rdOwnAt 4 rfl | exact rdAt 5 rfl | exact rdOwnAt 5 rfl | exact rdAt 6 rfl | exact rdOwnAt 6 rfl | exact rdAt 7 rfl | exact rdOwnAt 7 rfl | exact rdAt 8 rfl | exact rdOwnAt 8 rfl | exact rdAt 9 rfl | exact rdOwnAt 9 rfl | exact rdAt 10 rfl | exact rdOwnAt 10 rfl | exact rdAt 11 rfl | exact rdOwnAt 11 rfl | exact rdAt 12 rfl | exact rdOwnAt 12 rfl | exact rdAt 13 rfl | exact rdOwnAt 13 rfl | exact rdAt 14 rfl | exact rdOwnAt 14 rfl | exact rdAt 15 rfl | exact rdOwnAt 15 rfl | exact rdAt 16 rfl | exact rdOwnAt 16 rfl | exact rdAt 17 rfl | exact rdOwnAt 17 rfl | exact rdAt 18 rfl | exact rdOwnAt 18 rfl | exact rdAt 19 rfl | exact rdOwnAt 19 rfl | exact rdAt 20 rfl | exact rdOwnAt 20 rfl | exact rdAt 21 rfl | exact rdOwnAt 21 rfl | exact rdAt 22 rfl | exact rdOwnAt 22 rfl | exact rdAt 23 rfl | exact rdOwnAt 23 rfl) k rfl (by first | omega | (simp; done) | (simp; omega) | (unfold maxLen; omega) | (unfold maxLen; simp; done) | (unfold maxLen; simp; omega)) (fun ad2 => ?_)
        refine CaseB.mk (fun h => ?_) (fun h => ?_)
        · have hne := q2 (by simpa using h)
          refine retw [] ⟨?_, rfl⟩ trivial rfl trivial (fun _ => rfl)
          simp [hne]
        · have heq := q1 (by simpa using h)
          have hw := wrapN k _ hlt hb
          refine ⟨⟨k + 1, by omega, heq⟩, ?_, by simp; omega⟩
          refine weak_mk [0, 1] ?_ ?_ ?_ ?_ ?_ rfl rfl
          · repeat (first | exact trivial | refine ⟨⟨_, rfl, (by first | exact .of rfl | exact .lit rfl | exact .of (by first | ((exact congrArg (fun z => SV.v (Value.int .i64 z)) hw))) | exact .lit (by first | ((exact congrArg (fun z => SV.v (Value.int .i64 z)) hw)))), (by first | exact trivial | exact Nat.le_of_ble_eq_true rfl | exact small1 rfl)⟩, ?_⟩)
          · repeat (first | exact trivial | refine ⟨⟨(by first | exact .head _ | exact .tail _ (.head _) | exact .tail _ (.tail _ (.head _)) | exact .tail _ (.tail _ (.tail _ (.head _))) | exact .tail _ (.tail _ (.tail _ (.tail _ (.head _)))) | exact .tail _ (.tail _ (.tail _ (.tail _ (.tail _ (.head _))))) | exact .tail _ (.tail _ (.tail _ (.tail _ (.tail _ (.tail _ (.head _)))))) | exact .tail _ (.tail _ (.tail _ (.tail _ (.tail _ (.tail _ (.tail _ (.head _))))))) | exact .tail _ (.tail _ (.tail _ (.tail _ (.tail _ (.tail _ (.tail _ (.tail _ (.head _)))))))) | exact .tail _ (.tail _ (.tail _ (.tail _ (.tail _ (.tail _ (.tail _ (.tail _ (.tail _ (.head _)))))))))), Nat.le_of_ble_eq_true rfl⟩, ?_⟩)
          · repeat (first | exact trivial | refine ⟨⟨_, rfl, (by first | exact .of rfl | exact .lit rfl | exact .of (by first | ((exact congrArg (fun z => SV.v (Value.int .i64 z)) hw))) | exact .lit (by first | ((exact congrArg (fun z => SV.v (Value.int .i64 z)) hw)))), (by first | exact trivial | exact Nat.le_of_ble_eq_true rfl | exact small1 rfl)⟩, ?_⟩)
          · repeat (first | exact trivial | refine ⟨⟨_, rfl⟩, ?_⟩)
          · repeat (first | exact trivial | refine ⟨.inl ⟨_, rfl, (by first | rfl | ((exact congrArg (fun z => SV.v (Value.int .i64 z)) hw)))⟩, ?_⟩ | refine ⟨.inr ⟨Nat.le_of_ble_eq_true rfl, rfl, rfl, rfl, rfl⟩, ?_⟩)
      · have hge : xs.length ≤ k := by simpa using h
        have heq : xs = ys := by rw [List.take_of_length_le hge, List.take_of_length_le (by omega)] at he; exact he
        refine retw [] ⟨?_, rfl⟩ trivial rfl trivial (fun _ => rfl)
        simp [heq]

end Go.Proofs.Ytjkkoonennpceaa

namespace Go.Sx

open Go Go.RowKit

/-- The slice from place l on. -/
def Sl.cut (i : Sl) (l sz : Nat) : Sl := ⟨if i.c = l then i.a else i.a.map (·.add (l * sz)), i.c - l⟩

theorem RdS.cut {w : World} {i : Sl} {sz n l h : Nat} {cs : List Value} (hr : RdS w i sz cs n) (h1 : l ≤ h) (h2 : h ≤ n) : RdS w (i.cut l sz) sz ((cs.drop (l * sz)).take ((h - l) * sz)) (h - l) := by
  obtain ⟨g1, g2, g3, g4⟩ := hr
  have e1 : (h - l) * sz ≤ n * sz - l * sz := by rw [← Nat.sub_mul]; exact Nat.mul_le_mul_right _ (by omega)
  refine ⟨by rw [List.length_take, List.length_drop, g1]; omega, by simp only [Sl.cut]; omega, by simp only [Sl.cut]; omega, fun h0 => ?_⟩
  obtain ⟨ad, had, hc⟩ := g4 (by omega)
  refine ⟨ad.add (l * sz), by simp only [Sl.cut]; rw [if_neg (by omega), had]; rfl, fun j u hu => ?_⟩
  rw [addr_add_add]
  refine hc _ u ?_
  rw [List.getElem?_take] at hu
  split at hu
  · rw [List.getElem?_drop] at hu; exact hu
  · cases hu

theorem cut_foot {i : Sl} {l sz n m b : Nat} (h : m ≤ n) (hf : (fSl true (i.cut l sz) sz [] m).foot b) : (fSl true i sz [] n).foot b := by
  obtain ⟨h0, ad, had, rfl⟩ := hf
  refine ⟨by omega, ?_⟩
  simp only [Sl.cut] at had
  split at had
  · exact ⟨ad, had, rfl⟩
  · cases hi : i.a with
    | none => rw [hi] at had; simp at had
    | some a0 => rw [hi] at had; simp at had; exact ⟨a0, rfl, by rw [← had, block_add]⟩

section

variable {α : Type} {enc : α → List Value} {sz : Nat}

theorem cells_cut (he : Enc enc sz) (xs : List α) (l h : Nat) : (((cells enc xs).drop (l * sz)).take ((h - l) * sz)) = cells enc ((xs.drop l).take (h - l)) := by
  rw [cells_take he, cells_drop he]

/-- A part of a slice, for a call. -/
theorem atCut (he : Enc enc sz) {w : World} {Q : Nat → Prop} {o : Bool} {i : Sl} {xs : List α} (l h : Nat) (h1 : l ≤ h) (h2 : h ≤ xs.length) {ys : List α} (hy : ys = (xs.drop l).take (h - l))
    (hr : (fSl o i sz (cells enc xs) xs.length).P w ∧ ∀ b, (fSl o i sz (cells enc xs) xs.length).foot b → Q b) :
    (fSl o (i.cut l sz) sz (cells enc ys) ys.length).P w ∧ ∀ b, (fSl o (i.cut l sz) sz (cells enc ys) ys.length).foot b → Q b := by
  have := (show RdS w i sz (cells enc xs) xs.length from hr.1).cut h1 h2
  rw [cells_cut he] at this
  subst hy
  have hl : ((xs.drop l).take (h - l)).length = h - l := by simp; omega
  refine ⟨?_, fun b hb => hr.2 b ?_⟩
  · show RdS w (i.cut l sz) sz _ _
    rw [hl]
    exact this
  · exact cut_foot (m := ((xs.drop l).take (h - l)).length) (n := xs.length) (by rw [hl]; omega) hb

end

def bndV (T : List (Nat × SV)) (d : Int) : Option Operand → Option Int
  | none => some d
  | some y => match evalO T y with
    | some (.v (.int _ m)) => some m
    | _ => none

section

variable {E : Env} {ti : Nat → TI} {A : Nat → Nat} {T : List (Nat × SV)} {n c : Nat} {B : List (Nat × TypeId × Nat)} {M : List ((Nat × Nat) × SV)} {F Fs : List Fct} {o : Oper} {next : St → Prop} {a : Act} {w : World}

theorem bndV_some (hT : TD E A T n c a w) {d : Int} {y : Operand} {m : Int} (h : bndV T d (some y) = some m) : ∃ kd, a.eval y = .int kd m := by
  simp only [bndV] at h
  split at h
  · rename_i k q hq
    simp at h; subst h
    exact ⟨k, (evalO_sound hT hq).1⟩
  · cases h

theorem run_cut {P : Program} {t e : TypeId} {ie : TypeInfo} (ht : P.underlying t = some (.slice e)) (hi : P.info? e = some ie) (i : Sl) (k l h : Nat) (lo hi' : Option Value) (hlo : (lo = none ∧ l = 0) ∨ ∃ kd, lo = some (.int kd (l : Int))) (hhi : (hi' = none ∧ h = k) ∨ ∃ kd, hi' = some (.int kd (h : Int))) (h1 : l ≤ h) (h2 : h ≤ k) (h3 : k ≤ i.c) :
    (Instr.sliceAt t (i.val k) lo hi' none).run P w = .ok ((i.cut l ie.size).val (h - l)) w := by
  rcases hlo with ⟨rfl, rfl⟩ | ⟨kd, rfl⟩ <;> rcases hhi with ⟨rfl, rfl⟩ | ⟨kd2, rfl⟩ <;>
    simp [Instr.sliceAt, Instr.slice, underlying, ht, Sl.val, Instr.sliceBounds, run_sliceBound, run_sizeOf hi, Sl.cut, h1, show h ≤ i.c by omega]

theorem cut_run (hti : ∀ t, TIok E.P t (ti t)) (hT : TD E A T n c a w) {t e : TypeId} {x : Operand} {lo hi : Option Operand} {i : Sl} {k : Nat} {ml mh : Int} {sz : Nat} {agg : Bool} {size : Nat} {zero : List Value} {fs : List (Nat × Nat × Bool)} {ik : Option IntKind} {kk bytes : Nat} {agg2 : Bool} {zero2 : List Value} {fs2 : List (Nat × Nat × Bool)} {el2 : Option TypeId} {ik2 : Option IntKind} {kk2 bytes2 : Nat}
    (hop : o.op = .slice t x lo hi none) (hx : evalO T x = some (.v (i.val k)))
    (ht : ti t = .mk agg size zero fs (some e) ik kk bytes) (hte : ti e = .mk agg2 sz zero2 fs2 el2 ik2 kk2 bytes2)
    (hlo : bndV T 0 lo = some ml) (hhi : bndV T (k : Int) hi = some mh) {l h : Nat} (el : ml = (l : Int)) (eh : mh = (h : Int)) (h1 : l ≤ h) (h2 : h ≤ k) (h3 : k ≤ i.c) :
    (execOp a.eval o).run E.P w = .ok (.value ((i.cut l sz).val (h - l))) w := by
  have htt := hti t
  rw [ht] at htt
  obtain ⟨ii, dd, z, e1, e2, e3, e4, e5, e6, e7, e8, e9, e10, e11⟩ := tiSum_parts htt
  have htt2 := hti e
  rw [hte] at htt2
  obtain ⟨ii2, dd2, z2, k1, k2, k3, k4, k5, k6, k7, k8, k9, k10, k11⟩ := tiSum_parts htt2
  have hdd := el_slice e8
  subst el; subst eh
  have hx' : a.eval x = i.val k := (evalO_sound hT hx).1
  have := run_cut (P := E.P) (w := w) (by rw [e2, hdd]) k1 i k l h (lo.map a.eval) (hi.map a.eval) (by
    cases lo with
    | none => simp only [bndV, Option.some.injEq] at hlo; exact .inl ⟨rfl, by omega⟩
    | some y => obtain ⟨kd, e⟩ := bndV_some hT hlo; exact .inr ⟨kd, by simp [e]⟩) (by
    cases hi with
    | none => simp only [bndV, Option.some.injEq] at hhi; exact .inl ⟨rfl, by omega⟩
    | some y => obtain ⟨kd, e⟩ := bndV_some hT hhi; exact .inr ⟨kd, by simp [e]⟩) h1 h2 h3
  rw [k4] at this
  simp only [execOp, hop, hx', Option.map_none, this, Sem.run_bind, Sem.run_pure, Result.andThen_ok]

/-- A slice of a slice. -/
theorem stop_cut {t e : TypeId} {x : Operand} {lo hi : Option Operand} {i : Sl} {k : Nat} {ml mh : Int} {sz : Nat} {d : Nat} {cs : List Value} {agg : Bool} {size : Nat} {zero : List Value} {fs : List (Nat × Nat × Bool)} {ik : Option IntKind} {kk bytes : Nat} {agg2 : Bool} {zero2 : List Value} {fs2 : List (Nat × Nat × Bool)} {el2 : Option TypeId} {ik2 : Option IntKind} {kk2 bytes2 : Nat}
    (hti : ∀ t, TIok E.P t (ti t)) (hop : o.op = .slice t x lo hi none) (hx : evalO T x = some (.v (i.val k)))
    (ht : ti t = .mk agg size zero fs (some e) ik kk bytes) (hte : ti e = .mk agg2 sz zero2 fs2 el2 ik2 kk2 bytes2) (hd : Dst E o d)
    (hlo : bndV T 0 lo = some ml) (hhi : bndV T (k : Int) hi = some mh) (hF : ∀ w, (∀ f ∈ F, f.P w) → RdS w i sz cs k)
    (l h m : Nat) (el : ml = (l : Int)) (eh : mh = (h : Int)) (h1 : l ≤ h) (h2 : h ≤ k) (hm : m = h - l)
    (hnext : next (.mk ((d, .v ((i.cut l sz).val m)) :: T) n c B M F)) :
    OpW (opStop E o next T n c B M F) := by
  refine ⟨fun A a w hW hT => ?_⟩
  obtain ⟨_, g2, _, _⟩ := hF w (fun f hf => (hW.fct f hf).1)
  subst hm
  refine upon_of_value (cut_run hti hT hop hx ht hte hlo hhi el eh h1 h2 g2) ?_
  rw [hd.1]
  exact ⟨_, ⟨_, hW, hT.put (v := .v ((i.cut l sz).val (h - l))) hd.lt trivial⟩, hnext⟩

theorem bin_run (hT : TD E A T n c a w) {op : BinOp} {t t' : TypeId} {x y : Operand} {u v r : Value} (hop : o.op = .binOp op t x y t') (hx : evalV T x = some u) (hy : evalV T y = some v)
    (hg : (eqGuard op t x y u v).run E.P w = .ok () w) (hb : (binOp op t u v).run E.P w = .ok r w) : (execOp a.eval o).run E.P w = .ok (.value r) w := by
  simp only [execOp, hop, evalV_sound hT hx, evalV_sound hT hy, Sem.run_bind, hg, Result.andThen_ok, hb, Sem.run_pure]

/-- A binary operation that yields r. -/
theorem stop_bin {op : BinOp} {t t' : TypeId} {x y : Operand} {u v : Value} {d : Nat} (hop : o.op = .binOp op t x y t') (hx : evalV T x = some u) (hy : evalV T y = some v) (hd : Dst E o d) (r : Value)
    (hg : ∀ w, (eqGuard op t x y u v).run E.P w = .ok () w) (hb : ∀ w, (binOp op t u v).run E.P w = .ok r w) (hnext : next (.mk ((d, .v r) :: T) n c B M F)) :
    OpW (opStop E o next T n c B M F) := by
  refine ⟨fun A a w hW hT => ?_⟩
  refine upon_of_value (bin_run hT hop hx hy (hg w) (hb w)) ?_
  rw [hd.1]
  exact ⟨_, ⟨_, hW, hT.put (v := .v r) hd.lt trivial⟩, hnext⟩

theorem d_bin {op : BinOp} {t t' : TypeId} {x y : Operand} {u v : Value} {d : Nat} (hop : o.op = .binOp op t x y t') (hx : evalV T x = some u) (hy : evalV T y = some v) (hd : Dst E o d) (r : Value)
    (hg : ∀ w, (eqGuard op t x y u v).run E.P w = .ok () w) (hb : ∀ w, (binOp op t u v).run E.P w = .ok r w) {n0 : Nat} {B0 : List (Nat × TypeId × Nat)} {Ms : List ((Nat × Nat) × SV)}
    (hnext : next (.mk ((d, .v r) :: T) n c B M F)) :
    OpW (∀ A, ∃ s : SV, (∀ a w, WD E A n0 B0 Ms Fs w → TD E A T n c a w → (execOp a.eval o).run E.P w = .ok (.value (s.den A)) w ∧ s.okT n c w) ∧ (∃ d, Dst E o d ∧ next (.mk ((d, s) :: T) n c B M F))) :=
  ⟨fun _A => ⟨.v r, fun _a w _hW hT => ⟨bin_run hT hop hx hy (hg w) (hb w), trivial⟩, d, hd, hnext⟩⟩

theorem rem_run {P : Program} {t : TypeId} {k : IntKind} {p q r : Int} (hne : q ≠ 0) (hr : r = p.tmod q) (w : World) : (binOp .rem t (.int k p) (.int k q)).run P w = .ok (.int k r) w := by
  subst hr; simp [binOp, Op.intDiv, hne]

theorem quo_run {P : Program} {t : TypeId} {k : IntKind} {p q r : Int} (hne : q ≠ 0) (hr : r = k.wrap (p.tdiv q)) (w : World) : (binOp .quo t (.int k p) (.int k q)).run P w = .ok (.int k r) w := by
  subst hr; simp [binOp, Op.intDiv, hne]

theorem xor_run {P : Program} {t : TypeId} {k : IntKind} {p q r : Int} (hr : r = k.wrap ((BitVec.ofInt k.bits p ^^^ BitVec.ofInt k.bits q).toNat : Int)) (w : World) : (binOp .xor t (.int k p) (.int k q)).run P w = .ok (.int k r) w := by
  subst hr; simp [binOp, Op.intBits]

end

end Go.Sx

namespace Go.Sx

open Go Go.RowKit

/-- The facts that stand at a world, none of them about block g. -/
def AtP (w : World) (g : Nat) : List Fct → Prop
  | [] => True
  | f :: r => (f.P w ∧ ∀ b, f.foot b → b < w.heap.size ∧ b ≠ g) ∧ AtP w g r

theorem AtP.at {w : World} {g : Nat} : ∀ {F : List Fct}, AtP w g F → At w F
  | [], _ => trivial
  | _ :: _, h => ⟨⟨h.1.1, fun b hb => (h.1.2 b hb).1⟩, AtP.at h.2⟩

theorem AtP.all {w : World} {g : Nat} : ∀ {F : List Fct}, AtP w g F → ∀ f ∈ F, ∀ b, f.foot b → b ≠ g
  | [], _, f, hf => by cases hf
  | _ :: _, h, f, hf => by
    rcases List.mem_cons.1 hf with rfl | hf
    · exact fun b hb => (h.1.2 b hb).2
    · exact AtP.all h.2 f hf

/-- Block g is the variable of type ty with these cells. -/
def Blk (w : World) (g : Nat) (ty : TypeId) (cs : List Value) : Prop := w.heap[g]? = some (.cells cs.toArray ty (0, 0))

/-- What a call returns that may write block g: the value, the block's cells, the new facts. -/
def RetP (w : World) (g : Nat) (ty : TypeId) (sz : Nat) (R : Value → List Value → List Fct → Prop) : Ending → World → Prop := fun e w' =>
  ∃ v cs L, e = .returned v ∧ ExtX (fun b => b = g) w w' ∧ Blk w' g ty cs ∧ cs.length = sz ∧ New w w' L ∧ R v cs L

/-- What a call returns that makes a variable: its cells, the new facts. -/
def RetN (w : World) (ty : TypeId) (sz : Nat) (R : List Value → List Fct → Prop) : Ending → World → Prop := fun e w' =>
  ∃ g cs L, e = .returned (.pointer (some ⟨g, 0, none⟩)) ∧ Ext w w' ∧ w.heap.size ≤ g ∧ g < w'.heap.size ∧ Blk w' g ty cs ∧ cs.length = sz ∧ New w w' L ∧ (∀ f ∈ L, ∀ b, f.foot b → b ≠ g) ∧ R cs L

abbrev mkEnvP (P : Program) (w : World) (N g : Nat) : Env := ⟨P, w, fun b => b = g, N, 1, fun _ => g⟩

theorem WD.initP (P : Program) (w : World) (N g : Nat) (ty : TypeId) (cs : List Value) {F : List Fct} (hg : Blk w g ty cs) (h : AtP w g F) (ho : initOk F) :
    WD (mkEnvP P w N g) (fun _ => g) 1 [(0, ty, cs.length)] (storeL 0 0 (cs.map .v) []) F w := by
  have hlt : g < w.heap.size := (Array.getElem?_eq_some_iff.1 hg).1
  refine ⟨?_, ?_, ?_, fun k hk => rfl, Nat.le_refl _, ExtX.refl _ _, fun f hf => ?_, ?_⟩
  · intro k ty' sz hk
    simp only [List.mem_singleton, Prod.mk.injEq] at hk
    obtain ⟨rfl, rfl, rfl⟩ := hk
    exact ⟨Nat.zero_lt_one, hlt, .inr rfl, _, hg, by simp⟩
  · intro k ty1 sz1 k' ty2 sz2 h1 h2 _
    simp only [List.mem_singleton, Prod.mk.injEq] at h1 h2
    rw [h1.1, h2.1]
  · intro k o v hv
    rw [lookM_storeL] at hv
    split at hv
    · rename_i hc
      obtain ⟨rfl, _, hc3⟩ := hc
      rw [Nat.sub_zero, List.getElem?_map] at hv
      cases hx : cs[o]? with
      | none => rw [hx] at hv; simp at hv
      | some u =>
        rw [hx] at hv; simp at hv; subst hv
        refine ⟨⟨ty, cs.length, by simp⟩, ?_, trivial⟩
        rw [cell_of_row _ _ _ _ _ _ hg]
        show cs.toArray[o]? = some u
        simpa using hx
    · simp [lookM] at hv
  · obtain ⟨h1, h2⟩ := At_all h.at f hf
    obtain ⟨h3, h4⟩ := initOk_all ho f hf
    exact ⟨h1, fun b hb => ⟨h2 b hb, fun k ty sz _ => (h.all f hf b hb).symm⟩, fun e => by rw [h4] at e; cases e⟩
  · rw [List.pairwise_iff_getElem]
    intro i j hi hj _ hor
    rw [(initOk_all ho _ (List.getElem_mem hi)).1, (initOk_all ho _ (List.getElem_mem hj)).1] at hor
    simp at hor

section

variable {P : Program} {f : FuncId} {fn : Func} {x : Code} {R : Ending → World → Prop} {ti : Nat → TI}

theorem callsP_fn (hf : P.funcs[f]? = some fn) (hb : fn.body = some x) (hti : ∀ t, TIok P t (ti t)) (w : World) (N : Nat) (hN : fn.ntmps = N) (rs : List ResultVar) (hrs : fn.results.toList = rs) (g : Nat) (ty : TypeId) (cs : List Value) (sz : Nat) (hsz : listLen cs = sz) (hg : Blk w g ty cs) (F : List Fct) (hF : AtP w g F) (ho : initOk F)
    (l : List Value) (hl : l.length + 1 ≤ N)
    (hv : vcCode (mkEnvP P w N g) ti x (bodyK (mkEnvP P w N g) ti rs R) (.mk (initT 0 (.p 0 0 :: l.map .v)) 1 0 [(0, ty, sz)] (storeL 0 0 (cs.map .v) []) F)) : Calls P f (.pointer (some ⟨g, 0, none⟩) :: l).toArray w R := by
  subst hN; subst hrs
  rw [listLen_eq] at hsz
  subst hsz
  exact calls_sx hf hb (mkEnvP P w fn.ntmps g) rfl rfl hti (.p 0 0 :: l.map .v) 1 [(0, ty, cs.length)] (storeL 0 0 (cs.map .v) []) F (A := fun _ => g) (by simp [show (SV.den (fun _ => g) ∘ SV.v) = id from rfl, SV.den, ptr])
    (fun s hs => by
      rcases List.mem_cons.1 hs with rfl | hs
      · exact Nat.zero_lt_one
      · obtain ⟨u, _, rfl⟩ := List.mem_map.1 hs; trivial) (by simpa using hl) (WD.initP P w _ _ _ _ hg hF ho) hv

variable (hf : P.funcs[f]? = some fn) (hb : fn.body = some x) (hti : ∀ t, TIok P t (ti t)) (w : World) (N : Nat) (hN : fn.ntmps = N) (rs : List ResultVar) (hrs : fn.results.toList = rs) (g : Nat) (ty : TypeId) (cs : List Value) (sz : Nat) (hsz : listLen cs = sz) (hg : Blk w g ty cs) (F : List Fct) (hF : AtP w g F) (ho : initOk F)
  include hf hb hti hN hrs hsz hg hF ho

theorem callsP1 (hl : 1 ≤ N) (hv : vcCode (mkEnvP P w N g) ti x (bodyK (mkEnvP P w N g) ti rs R) (.mk [(0, .p 0 0)] 1 0 [(0, ty, sz)] (storeL 0 0 (cs.map .v) []) F)) : Calls P f #[.pointer (some ⟨g, 0, none⟩)] w R :=
  callsP_fn hf hb hti w N hN rs hrs g ty cs sz hsz hg F hF ho [] hl hv

theorem callsP2 (a : Value) (hl : 2 ≤ N) (hv : vcCode (mkEnvP P w N g) ti x (bodyK (mkEnvP P w N g) ti rs R) (.mk [(0, .p 0 0), (1, .v a)] 1 0 [(0, ty, sz)] (storeL 0 0 (cs.map .v) []) F)) : Calls P f #[.pointer (some ⟨g, 0, none⟩), a] w R :=
  callsP_fn hf hb hti w N hN rs hrs g ty cs sz hsz hg F hF ho [a] hl hv

end

section

variable {E : Env} {ti : Nat → TI} {A : Nat → Nat} {T : List (Nat × SV)} {n c : Nat} {B : List (Nat × TypeId × Nat)} {M : List ((Nat × Nat) × SV)} {F Fs : List Fct} {o : Oper} {next : St → Prop} {a : Act} {w w' : World}

def lookBT : List (Nat × TypeId × Nat) → Nat → Option (TypeId × Nat)
  | [], _ => none
  | (k, t, sz) :: r, k' => match Nat.beq k k' with
    | true => some (t, sz)
    | false => lookBT r k'

theorem lookBT_mem : ∀ {B : List (Nat × TypeId × Nat)} {k t sz : Nat}, lookBT B k = some (t, sz) → (k, t, sz) ∈ B
  | [], _, _, _, h => by simp [lookBT] at h
  | (k, t, sz) :: r, k', t', sz', h => by
    simp only [lookBT] at h
    split at h
    · rename_i hb
      obtain rfl := Nat.eq_of_beq_eq_true hb
      simp at h
      obtain ⟨rfl, rfl⟩ := h
      simp
    · exact List.mem_cons_of_mem _ (lookBT_mem h)

/-- A block of which all cells are known. -/
theorem WD.blk (h : WD E A n B M F w) {k ty sz : Nat} {cs : List Value} (hB : (k, ty, sz) ∈ B) (hM : loadN M k 0 sz = some cs) : Blk w (A k) ty cs ∧ cs.length = sz := by
  obtain ⟨_, _, _, cs0, h4, h5⟩ := h.key k ty sz hB
  obtain ⟨g1, g2⟩ := loadN_spec (fun k o v hv => (h.mem k o v hv).2.1) hM
  refine ⟨?_, g1⟩
  unfold Blk
  rw [h4]
  congr 1
  have : cs0 = cs.toArray := by
    apply Array.ext
    · simp [h5, g1]
    · intro j h1 h2
      have := g2 j cs[j] (List.getElem?_eq_getElem (by simpa using h2))
      rw [cell_of_row _ _ _ _ _ _ h4, Nat.zero_add] at this
      obtain ⟨_, e⟩ := Array.getElem?_eq_some_iff.1 this
      simpa using e
  rw [this]

/-- Facts for a call that takes a pointer to block k. -/
theorem WD.offB (h : WD E A n B M F w) {k ty sz : Nat} (hB : lookBT B k = some (ty, sz)) {P : Fct} (i : Nat) (hi : F[i]? = some P) : ∀ b, P.foot b → b < w.heap.size ∧ b ≠ A k :=
  fun b hb => ⟨((h.fct _ (List.mem_of_getElem? hi)).2.1 b hb).1, fun e => ((h.fct _ (List.mem_of_getElem? hi)).2.1 b hb).2 k ty sz (lookBT_mem hB) e.symm⟩

theorem WD.rdP (h : WD E A n B M F w) (g : Nat) {k ty sz : Nat} (hg : g = A k) (hB : lookBT B k = some (ty, sz)) (j : Nat) {old o2 : Bool} {i : Sl} {s m : Nat} {cs : List Value} (hi : F[j]? = some (fSl old i s cs m)) :
    (fSl o2 i s cs m).P w ∧ ∀ b, (fSl o2 i s cs m).foot b → b < w.heap.size ∧ b ≠ g := by
  subst hg
  exact ⟨(h.nth j hi).1, fun b hb => h.offB hB j hi b hb⟩

theorem WD.rdOwnP (h : WD E A n B M F w) (g : Nat) {k ty sz : Nat} (hg : g = A k) (hB : lookBT B k = some (ty, sz)) (j : Nat) {old o2 : Bool} {i : Sl} {e s m : Nat} {cs : List Value} (hi : F[j]? = some (fOwn old i e s cs m)) :
    (fSl o2 i s cs m).P w ∧ ∀ b, (fSl o2 i s cs m).foot b → b < w.heap.size ∧ b ≠ g := by
  subst hg
  exact ⟨own_rd (h.nth j hi).1, fun b hb => h.offB hB j hi b hb.2⟩

/-- A call has written block k. -/
theorem WD.callP (h : WD E A n B M F w) {k ty sz : Nat} (hk : (k, ty, sz) ∈ B) {cs : List Value} (hex : ExtX (fun b => b = A k) w w') (hnew : Blk w' (A k) ty cs) (hl : cs.length = sz) {L : List Fct} (hL : New w w' L) :
    WD E A n B (storeL k 0 (cs.map .v) M) (L ++ F) w' := by
  obtain ⟨hk1, hk2, hk3, cs0, hk4, hk5⟩ := h.key k ty sz hk
  refine ⟨?_, h.inj, ?_, h.a0, h.n0, h.ext.trans' hex (fun i hi e => ?_), ?_, ?_⟩
  · intro k' ty' sz' hk'
    obtain ⟨g1, g2, g3, cs2, g4, g5⟩ := h.key k' ty' sz' hk'
    refine ⟨g1, Nat.lt_of_lt_of_le g2 hex.size, g3, ?_⟩
    by_cases e : A k' = A k
    · rw [e, hk4] at g4
      simp only [Option.some.injEq, Obj.cells.injEq] at g4
      obtain ⟨rfl, rfl, _⟩ := g4
      exact ⟨cs.toArray, by rw [e]; exact hnew, by simp; omega⟩
    · exact ⟨cs2, by rw [hex.block _ g2 e]; exact g4, g5⟩
  · intro k' o' v hv
    rw [lookM_storeL] at hv
    split at hv
    · rename_i hc
      obtain ⟨rfl, _, hc3⟩ := hc
      rw [Nat.sub_zero, List.getElem?_map] at hv
      cases hx : cs[o']? with
      | none => rw [hx] at hv; simp at hv
      | some u =>
        rw [hx] at hv; simp at hv; subst hv
        refine ⟨⟨ty, sz, hk⟩, ?_, trivial⟩
        rw [cell_of_row _ _ _ _ _ _ hnew]
        show cs.toArray[o']? = some u
        simpa using hx
    · rename_i hc
      obtain ⟨⟨ty', sz', hk'⟩, g2, g3⟩ := h.mem k' o' v hv
      refine ⟨⟨ty', sz', hk'⟩, ?_, g3⟩
      by_cases e : A k' = A k
      · have ek : k' = k := h.inj _ _ _ _ _ _ hk' hk e
        subst ek
        rw [cell_of_row _ _ _ _ _ _ hk4] at g2
        have : o' < cs0.size := (Array.getElem?_eq_some_iff.1 g2).1
        exact absurd ⟨rfl, Nat.zero_le _, by simp; omega⟩ hc
      · rw [← g2]
        exact World.cell?_of_block (hex.block _ (h.key _ _ _ hk').2.1 e)
  · subst e
    rcases hk3 with hk3 | hk3
    · omega
    · exact hk3
  · intro f hf
    rcases List.mem_append.1 hf with hf | hf
    · obtain ⟨h1, h2, h3⟩ := hL.all f hf
      refine ⟨h1, fun b hb => ⟨(h3 b hb).2, fun k ty sz hk e => ?_⟩, fun _ b hb => .inl (Nat.le_trans h.ext.size (h3 b hb).1)⟩
      have := (h.key k ty sz hk).2.1
      have := (h3 b hb).1
      omega
    · obtain ⟨g1, g2, g3⟩ := h.fct f hf
      exact ⟨Fct.keep g1 (fun b hb => (g2 b hb).1) hex (fun b hb e => (g2 b hb).2 k ty sz hk e.symm), fun b hb => ⟨Nat.lt_of_lt_of_le (g2 b hb).1 hex.size, (g2 b hb).2⟩, g3⟩
  · rw [List.pairwise_append]
    refine ⟨hL.dj, h.dj, fun f hf g hg _ b hb hb' => ?_⟩
    have := (hL.all f hf).2.2 b hb
    have := ((h.fct g hg).2.1 b hb').1
    omega

/-- A call has made a variable. -/
theorem WD.callN (h : WD E A n B M F w) {g ty sz : Nat} {cs : List Value} (hex : Ext w w') (hg1 : w.heap.size ≤ g) (hg2 : g < w'.heap.size) (hnew : Blk w' g ty cs) (hl : cs.length = sz) {L : List Fct} (hL : New w w' L) (hoff : ∀ f ∈ L, ∀ b, f.foot b → b ≠ g) :
    WD E (fun k => if k = n then g else A k) (n + 1) ((n, ty, sz) :: B) (storeL n 0 (cs.map .v) M) (L ++ F) w' := by
  have h' := h.learn hex hL
  have hold : ∀ k ty sz, (k, ty, sz) ∈ B → k ≠ n := fun k ty sz hk => by have := (h.key k ty sz hk).1; omega
  have hlt : ∀ k ty sz, (k, ty, sz) ∈ B → A k < w.heap.size := fun k ty sz hk => (h.key k ty sz hk).2.1
  refine ⟨?_, ?_, ?_, ?_, Nat.le_succ_of_le h.n0, h'.ext, ?_, h'.dj⟩
  · intro k ty' sz' hk
    rcases List.mem_cons.1 hk with hk | hk
    · simp only [Prod.mk.injEq] at hk
      obtain ⟨rfl, rfl, rfl⟩ := hk
      simp only [if_true]
      exact ⟨Nat.lt_succ_self _, hg2, .inl (Nat.le_trans h.ext.size hg1), _, hnew, by simpa using hl⟩
    · obtain ⟨h1, h2, h3, h4⟩ := h'.key k ty' sz' hk
      simp only [if_neg (hold k ty' sz' hk)]
      exact ⟨by omega, h2, h3, h4⟩
  · intro k ty1 sz1 k' ty2 sz2 hk hk' he
    rcases List.mem_cons.1 hk with hk | hk <;> rcases List.mem_cons.1 hk' with hk' | hk'
    · simp only [Prod.mk.injEq] at hk hk'; omega
    · simp only [Prod.mk.injEq] at hk
      simp only [hk.1, if_true, if_neg (hold _ _ _ hk')] at he
      have := hlt _ _ _ hk'
      omega
    · simp only [Prod.mk.injEq] at hk'
      simp only [hk'.1, if_true, if_neg (hold _ _ _ hk)] at he
      have := hlt _ _ _ hk
      omega
    · simp only [if_neg (hold _ _ _ hk), if_neg (hold _ _ _ hk')] at he
      exact h.inj _ _ _ _ _ _ hk hk' he
  · intro k o v hv
    rw [lookM_storeL] at hv
    split at hv
    · rename_i hc
      obtain ⟨rfl, _, hc3⟩ := hc
      rw [Nat.sub_zero, List.getElem?_map] at hv
      cases hx : cs[o]? with
      | none => rw [hx] at hv; simp at hv
      | some u =>
        rw [hx] at hv; simp at hv; subst hv
        refine ⟨⟨ty, sz, by simp⟩, ?_, trivial⟩
        simp only [if_true]
        rw [cell_of_row _ _ _ _ _ _ hnew]
        show cs.toArray[o]? = some u
        simpa using hx
    · obtain ⟨⟨ty', sz', hk⟩, h2, h3⟩ := h'.mem k o v hv
      refine ⟨⟨ty', sz', by simp [hk]⟩, ?_, SV.small_more h3 (Nat.le_succ _)⟩
      simp only [if_neg (hold _ _ _ hk)]
      rw [SV.den_upd (SV.small_okT (c := 0) (w := w) h3) _ _ (Nat.le_refl _), ← h2]
  · intro k hk
    have hk' := h.n0
    simp only [if_neg (show k ≠ n by omega)]
    exact h.a0 k hk
  · intro f hf
    obtain ⟨h1, h2, h3⟩ := h'.fct f hf
    refine ⟨h1, fun b hb => ⟨(h2 b hb).1, fun k ty' sz' hk => ?_⟩, h3⟩
    rcases List.mem_cons.1 hk with hk | hk
    · simp only [Prod.mk.injEq] at hk
      simp only [hk.1, if_true]
      rcases List.mem_append.1 hf with hf | hf
      · exact (hoff f hf b hb).symm
      · have := ((h.fct f hf).2.1 b hb).1
        omega
    · simp only [if_neg (hold _ _ _ hk)]
      exact (h2 b hb).2 k ty' sz' hk

theorem call_enter (hT : TD E A T n c a w) {k : Call} {fo : Operand} {g : FuncId} {cap : List (Nat × Nat)} {l : List SV} (hc : callable E.P g = true)
    (hop : o.op = .call k) (hk : k.callee = .value fo) (hf : evalO T fo = some (.f g cap)) (ha : evalOs T k.args.toList = some l) :
    (execOp a.eval o).run E.P w = .ok (.enter g ((l.map (SV.den A)) ++ cap.map (fun x => ptr A x.1 x.2)).toArray) w := by
  have hargs : (k.args.map a.eval).toList = l.map (SV.den A) := by rw [Array.toList_map]; exact evalOs_sound hT ha
  have hfv := (evalO_sound hT hf).1
  have hcat : (k.args.map a.eval) ++ (cap.map (fun x => ptr A x.1 x.2)).toArray = ((l.map (SV.den A)) ++ cap.map (fun x => ptr A x.1 x.2)).toArray := by
    apply Array.ext'; rw [Array.toList_append, hargs]
  simp only [execOp, hop, resolve, hk, Sem.run_bind, hfv, SV.den, Deferred.ofValue, Sem.run_pure, Result.andThen_ok, Array.empty_append, invoke, hcat, run_callFunc hc]

/-- A call of a function that takes a pointer to block kb. -/
theorem stop_callP (R : Value → List Value → List Fct → Prop) {k : Call} {fo : Operand} {g : FuncId} {cap : List (Nat × Nat)} {l : List SV} {d kb ty sz : Nat} {cs : List Value} (hc : callable E.P g = true)
    (hop : o.op = .call k) (hk : k.callee = .value fo) (hf : evalO T fo = some (.f g cap)) (ha : evalOs T k.args.toList = some (.p kb 0 :: l)) (hd : Dst E o d) (hB : lookBT B kb = some (ty, sz)) (hM : loadN M kb 0 sz = some cs)
    (hcall : ∀ A w ga, ga = A kb → WD E A n B M F w → Blk w ga ty cs → Calls E.P g (.pointer (some ⟨ga, 0, none⟩) :: ((l.map (SV.den A)) ++ cap.map (fun x => ptr A x.1 x.2))).toArray w (RetP w ga ty sz R))
    (hnext : ∀ v cs L, R v cs L → storeK kb 0 (cs.map .v) M fun M' => next (.mk ((d, .v v) :: T) n (c + 1) B M' (L ++ F))) :
    OpW (opStop E o next T n c B M F) := by
  refine ⟨fun A a w hW hT => ?_⟩
  unfold Oper.wp
  rw [call_enter hT hc hop hk hf ha, Oper.upon_enter]
  refine (hcall A w (A kb) rfl hW (hW.blk (lookBT_mem hB) hM).1).mono ?_
  rintro e w' ⟨v, cs', L, rfl, he, hb, hl, hL, hR⟩
  have hn := hnext v cs' L hR
  rw [storeK_eq] at hn
  refine ⟨_, ⟨_, hW.callP (lookBT_mem hB) he hb hl hL, ?_⟩, hn⟩
  rw [hd.1]
  exact (hT.step w').put (v := .v v) hd.lt trivial

/-- A call of a function that makes a variable. -/
theorem stop_callN (R : List Value → List Fct → Prop) {k : Call} {fo : Operand} {g : FuncId} {cap : List (Nat × Nat)} {l : List SV} {d : Nat} (ty sz : Nat) (hc : callable E.P g = true)
    (hop : o.op = .call k) (hk : k.callee = .value fo) (hf : evalO T fo = some (.f g cap)) (ha : evalOs T k.args.toList = some l) (hd : Dst E o d)
    (hcall : ∀ A w, WD E A n B M F w → Calls E.P g ((l.map (SV.den A)) ++ cap.map (fun x => ptr A x.1 x.2)).toArray w (RetN w ty sz R))
    (hnext : ∀ cs L, R cs L → storeK n 0 (cs.map .v) M fun M' => next (.mk ((d, .p n 0) :: T) (n + 1) (c + 1) ((n, ty, sz) :: B) M' (L ++ F))) :
    OpW (opStop E o next T n c B M F) := by
  refine ⟨fun A a w hW hT => ?_⟩
  unfold Oper.wp
  rw [call_enter hT hc hop hk hf ha, Oper.upon_enter]
  refine (hcall A w hW).mono ?_
  rintro e w' ⟨q, cs', L, rfl, he, hq1, hq2, hb, hl, hL, hoff, hR⟩
  have hn := hnext cs' L hR
  rw [storeK_eq] at hn
  refine ⟨_, ⟨_, hW.callN he hq1 hq2 hb hl hL hoff, ?_⟩, hn⟩
  rw [hd.1]
  have := (hT.alloc q w').put (d := d) (v := .p n 0) hd.lt (Nat.lt_succ_self n)
  simpa [SV.den, ptr] using this

theorem keepM_store {Ms : List ((Nat × Nat) × SV)} {kb sz : Nat} {l : List SV} (h : keepM Ms M) (hno : noKey Ms kb 0 sz = true) (hl : l.length = sz) : keepM Ms (storeL kb 0 l M) := by
  intro k o v hv
  rw [lookM_storeL, if_neg ?_]
  · exact h k o v hv
  · have := noKey_ok hno k o v hv
    rw [hl]
    exact this

/-- The same in a region that draws. -/
theorem d_callP (R : Value → List Value → List Fct → Prop) {k : Call} {fo : Operand} {g : FuncId} {cap : List (Nat × Nat)} {l : List SV} {d kb ty sz : Nat} {cs : List Value} {Ms : List ((Nat × Nat) × SV)} (hc : callable E.P g = true)
    (hop : o.op = .call k) (hk : k.callee = .value fo) (hf : evalO T fo = some (.f g cap)) (ha : evalOs T k.args.toList = some (.p kb 0 :: l)) (hd : Dst E o d) (hB : lookBT B kb = some (ty, sz)) (hM : loadN M kb 0 sz = some cs) (hno : noKey Ms kb 0 sz = true)
    (hcall : ∀ A w ga, ga = A kb → WD E A n B M F w → Blk w ga ty cs → Calls E.P g (.pointer (some ⟨ga, 0, none⟩) :: ((l.map (SV.den A)) ++ cap.map (fun x => ptr A x.1 x.2))).toArray w (RetP w ga ty sz R))
    (hnext : ∀ v cs L, R v cs L → storeK kb 0 (cs.map .v) M fun M' => next (.mk ((d, .v v) :: T) n (c + 1) B M' (L ++ F))) :
    OpW (opD E o Ms Fs next T n c B M F) := by
  refine ⟨fun hkm hkf A a w hW hT => ?_⟩
  unfold Oper.wp
  rw [call_enter hT hc hop hk hf ha, Oper.upon_enter]
  refine (hcall A w (A kb) rfl hW (hW.blk (lookBT_mem hB) hM).1).mono ?_
  rintro e w' ⟨v, cs', L, rfl, he, hb, hl, hL, hR⟩
  have hn := hnext v cs' L hR
  rw [storeK_eq] at hn
  refine ⟨A, _, n, _, B, _, _, fun _ _ => rfl, Nat.le_refl _, fun _ h => h, keepM_store hkm hno (by simpa using hl), fun f hf => List.mem_append_right _ (hkf f hf), hW.callP (lookBT_mem hB) he hb hl hL, fun w2 => ?_, hn⟩
  rw [hd.1]
  exact (hT.step w2).put (v := .v v) hd.lt trivial

end

/-- A return of a function that took a pointer. -/
theorem retP {P : Program} {w : World} {N g ty sz : Nat} {n : Nat} {B : List (Nat × TypeId × Nat)} {M : List ((Nat × Nat) × SV)} {F : List Fct} {R : Value → List Value → List Fct → Prop} {l : List SV} (ix : List Nat) {L : List Fct} {v : Value} {cs : List Value} (hR : R v cs L) (hB : lookBT B 0 = some (ty, sz)) (hM : loadN M 0 0 sz = some cs)
    (hF : FW F ix L) (hix : nodupB ix = true) (ho : freshOk L) (hv : ∀ A, resV A l = v) :
    RetW (∀ A w', WD (mkEnvP P w N g) A n B M F w' → RetP w g ty sz R (.returned (resV A l)) w') := by
  refine ⟨fun A w' h => ?_⟩
  rw [hv A]
  have hs := h.pick ix hF hix
  obtain ⟨hb, hl⟩ := h.blk (lookBT_mem hB) hM
  have ha : A 0 = g := h.a0 0 (by show 0 < 1; omega)
  rw [ha] at hb
  refine ⟨v, cs, L, rfl, h.ext, hb, hl, ⟨fun f hf => ?_, hs.dj⟩, hR⟩
  obtain ⟨h1, h2, h3⟩ := hs.fct f hf
  exact ⟨h1, freshOk_all ho f hf, fun b hb => ⟨(h3 (freshOk_all ho f hf) b hb).resolve_right (fun e => (h2 b hb).2 0 ty sz (lookBT_mem hB) (ha.trans e.symm)), (h2 b hb).1⟩⟩

/-- A return of a pointer to a new variable: block kb. -/
theorem retN {P : Program} {w : World} {N kb ty sz : Nat} {n : Nat} {B : List (Nat × TypeId × Nat)} {M : List ((Nat × Nat) × SV)} {F : List Fct} {R : List Value → List Fct → Prop} {l : List SV} (ix : List Nat) {L : List Fct} {cs : List Value} (hR : R cs L) (hl : l = [.p kb 0]) (hB : lookBT B kb = some (ty, sz)) (hM : loadN M kb 0 sz = some cs)
    (hF : FW F ix L) (hix : nodupB ix = true) (ho : freshOk L) :
    RetW (∀ A w', WD (mkEnv P w N) A n B M F w' → RetN w ty sz R (.returned (resV A l)) w') := by
  refine ⟨fun A w' h => ?_⟩
  subst hl
  have hs := h.pick ix hF hix
  obtain ⟨hb, hl⟩ := h.blk (lookBT_mem hB) hM
  obtain ⟨_, g2, g3, _⟩ := h.key kb ty sz (lookBT_mem hB)
  refine ⟨A kb, cs, L, rfl, h.ext, g3.resolve_right (fun h => h), g2, hb, hl, ⟨fun f hf => ?_, hs.dj⟩, fun f hf b hb => ?_, hR⟩
  · obtain ⟨h1, h2, h3⟩ := hs.fct f hf
    exact ⟨h1, freshOk_all ho f hf, fun b hb => ⟨(h3 (freshOk_all ho f hf) b hb).resolve_right (fun h => h), (h2 b hb).1⟩⟩
  · exact (((hs.fct f hf).2.1 b hb).2 kb ty sz (lookBT_mem hB)).symm

end Go.Sx

namespace Go.Proofs.Ytjkkoonennpceaa

open Go Go.Sx Go.RowKit

def cByte (x : UInt8) : List Value := [.int .u8 (x.toNat : Int)]

theorem encByte : Enc cByte 1 := ⟨fun _ => rfl, fun _ u hu => by simp [cByte] at hu; subst hu; rfl⟩

/-- The reader's variable. -/
def rdrV (bi : Sl) (bs : List UInt8) (p : Nat) : List Value := [bi.val bs.length, .int .i64 (p : Int)]

theorem wrap_nn {x : Int} (h0 : 0 ≤ x) (h : x < 9223372036854775808) : IntKind.i64.wrap x = x := by
  rw [IntKind.wrap_i64]; omega

theorem xor_nn {x y : Int} (hx0 : 0 ≤ x) (hx : x < 9223372036854775808) (hy0 : 0 ≤ y) (hy : y < 9223372036854775808) :
    ∃ z : Nat, IntKind.i64.wrap ((BitVec.ofInt IntKind.i64.bits x ^^^ BitVec.ofInt IntKind.i64.bits y).toNat : Int) = (z : Int) ∧ z < 9223372036854775808 := by
  have h1 : (BitVec.ofInt IntKind.i64.bits x ^^^ BitVec.ofInt IntKind.i64.bits y).toNat = x.toNat ^^^ y.toNat := by
    rw [BitVec.toNat_xor, BitVec.toNat_ofInt, BitVec.toNat_ofInt]
    have e : ((2 ^ IntKind.i64.bits : Nat) : Int) = 18446744073709551616 := by decide
    rw [e, Int.emod_eq_of_lt hx0 (by omega), Int.emod_eq_of_lt hy0 (by omega)]
  rw [h1]
  have h2 : x.toNat ^^^ y.toNat < 2 ^ 63 := Nat.xor_lt_two_pow (by omega) (by omega)
  have h2' : x.toNat ^^^ y.toNat < 9223372036854775808 := h2
  exact ⟨_, wrap_nn (by omega) (by omega), h2'⟩

theorem sum_wrap {b1 b2 p q X : Nat} (h1 : b1 < 256) (h2 : b2 < 256) (hp : p < 1000000000) (hq : q ≤ p) (hX : X = b1 * 131 + b2 * 1117 + p * 29 + q * 53) :
    IntKind.i64.wrap (IntKind.i64.wrap (IntKind.i64.wrap (IntKind.i64.wrap (IntKind.i64.wrap (b1 : Int) * 131) + IntKind.i64.wrap (IntKind.i64.wrap (b2 : Int) * 1117)) + IntKind.i64.wrap ((p : Int) * 29)) + IntKind.i64.wrap ((q : Int) * 53)) = (X : Int) := by
  have w1 : IntKind.i64.wrap (b1 : Int) = b1 := wrap_nn (by omega) (by omega)
  have w2 : IntKind.i64.wrap (b2 : Int) = b2 := wrap_nn (by omega) (by omega)
  have w3 : IntKind.i64.wrap ((b1 : Int) * 131) = (b1 : Int) * 131 := wrap_nn (by omega) (by omega)
  have w4 : IntKind.i64.wrap ((b2 : Int) * 1117) = (b2 : Int) * 1117 := wrap_nn (by omega) (by omega)
  have w5 : IntKind.i64.wrap ((p : Int) * 29) = (p : Int) * 29 := wrap_nn (by omega) (by omega)
  have w6 : IntKind.i64.wrap ((q : Int) * 53) = (q : Int) * 53 := wrap_nn (by omega) (by omega)
  rw [w1, w2, w3, w4, w5, w6]
  rw [wrap_nn (x := (b1 : Int) * 131 + (b2 : Int) * 1117) (by omega) (by omega), wrap_nn (x := (b1 : Int) * 131 + (b2 : Int) * 1117 + (p : Int) * 29) (by omega) (by omega), wrap_nn (by omega) (by omega)]
  omega

set_option maxRecDepth 100000 in
theorem pick_c (g : Nat) (bi : Sl) (bs : List UInt8) (p : Nat) (n : Int) (w : World) (hg : Blk w g 108 (rdrV bi bs p)) (h : AtP w g [slo bi cByte 1 bs]) (hb : bs.length ≤ 2000) (hp : p < 1000000000) :
    Calls Try.prog 57 #[.pointer (some ⟨g, 0, none⟩), .int .i64 n] w (RetP w g 108 2 fun v cs L => ∃ k : Nat, v = .int .i64 (k : Int) ∧ (1 ≤ n → (k : Int) < n) ∧ (n < 1 → k = 0) ∧ cs = rdrV bi bs (p + 1) ∧ L = []) := by
  have e1 : IntKind.i64.wrap ((p : Int) + 1) = ((p + 1 : Nat) : Int) := by rw [wrap_nn] <;> omega
  have e2 : IntKind.i64.wrap (((p + 1 : Nat) : Int) - 1) = (p : Int) := by rw [wrap_nn] <;> omega
  refine callsP2 Try.func57 rfl tabOk w _ rfl _ rfl _ 108 _ 2 rfl hg _ h ⟨rfl, rfl, trivial⟩ _ (by decide) ?_
  refine CaseB.mk (fun h => ?_) (fun h => ?_)
  · refine retP [] ⟨0, rfl, ?_, fun _ => rfl, ?_, rfl⟩ rfl rfl trivial rfl trivial (fun _ => rfl)
    · intro h1
      simp at h; omega
    · simp only [rdrV, e1]
  · have hn1 : 1 ≤ n := by simp at h; omega
    refine CaseB.mk (fun h => ?_) (fun h => ?_)
    · exact retP [] ⟨0, rfl, fun _ => by omega, fun _ => rfl, by simp only [rdrV, e1], rfl⟩ rfl rfl trivial rfl trivial (fun _ => rfl)
    · have hL : 0 < bs.length := by
        rcases Nat.eq_zero_or_pos bs.length with h0 | h0
        · rw [h0] at h; simp at h
        · exact h0
      have e3 : IntKind.i64.wrap (IntKind.i64.wrap ((p : Int) + 1) - 1) = (p : Int) := by rw [e1, e2]
      refine CaseB.mk (fun h => ?_) (fun h => ?_)
      · rw [e3] at h
        have hlt : p < bs.length := by simpa using h
        have hb8 := bs[p].toNat_lt
        have e4 : IntKind.i64.wrap (bs[p].toNat : Int) = (bs[p].toNat : Int) := by rw [wrap_nn] <;> omega
        have e5 : ((bs[p].toNat % n.toNat : Nat) : Int) = (IntKind.i64.wrap (bs[p].toNat : Int)).tmod n := by
          rw [e4, Int.tmod_eq_emod_of_nonneg (by omega), Int.natCast_emod, Int.toNat_of_nonneg (by omega)]
        refine stop_idx encByte tabOk rfl rfl rfl rfl rfl ⟨rfl, rfl⟩ (by first | exact rdAt 0 rfl | exact rdOwnAt 0 rfl | exact rdAt 1 rfl | exact rdOwnAt 1 rfl | exact rdAt 2 rfl | exact rdOwnAt 2 rfl | exact rdAt 3 rfl | exact rdOwnAt 3 rfl | exact rdAt 4 rfl | exact rdOwnAt 4 rfl | exact rdAt 5 rfl | exact rdOwnAt 5 rfl | exact rdAt 6 rfl | exact rdOwnAt 6 rfl | exact rdAt 7 rfl | exact rdOwnAt 7 rfl | exact rdAt 8 rfl | exact rdOwnAt 8 rfl | exact rdAt 9 rfl | exact rdOwnAt 9 rfl | exact rdAt 10 rfl | exact rdOwnAt 10 rfl | exact rdAt 11 rfl | exact rdOwnAt 11 rfl | exact rdAt 12 rfl | exact rdOwnAt 12 rfl | exact rdAt 13 rfl | exact rdOwnAt 13 rfl | exact rdAt 14 rfl | exact rdOwnAt 14 rfl | exact rdAt 15 rfl | exact rdOwnAt 15 rfl | exact rdAt 16 rfl | exact rdOwnAt 16 rfl | exact rdAt 17 rfl | exact rdOwnAt 17 rfl | exact rdAt 18 rfl | exact rdOwnAt 18 rfl | exact rdAt 19 rfl | exact rdOwnAt 19 rfl | exact rdAt 20 rfl | exact rdOwnAt 20 rfl | exact rdAt 21 rfl | exact rdOwnAt 21 rfl | exact rdAt 22 rfl | exact rdOwnAt 22 rfl | exact rdAt 23 rfl | exact rdOwnAt 23 rfl) p e3 (by first | omega | (simp; done) | (simp; omega) | (unfold maxLen; omega) | (unfold maxLen; simp; done) | (unfold maxLen; simp; omega)) (fun ad => ?_)
        refine stop_bin rfl rfl rfl ⟨rfl, rfl⟩ (.int .i64 ((bs[p].toNat % n.toNat : Nat) : Int)) (fun w => eqGuard_int w) (fun w => rem_run (by omega) e5 w) ?_
        refine retP [] ⟨_, rfl, fun _ => ?_, fun _ => by omega, by simp only [rdrV, e1], rfl⟩ rfl rfl trivial rfl trivial (fun _ => rfl)
        rw [Int.natCast_emod, Int.toNat_of_nonneg (by omega)]
        exact Int.emod_lt_of_pos _ (by omega)
      · refine draw_start tabOk (by kernel_rfl) (by kernel_rfl) (by kernel_rfl) 200 [((0, 0), .v (bi.val bs.length)), ((0, 1), .v (.int .i64 (IntKind.i64.wrap ((p : Int) + 1))))] [0] [_] ⟨⟨_, rfl, rfl, (by first | exact trivial | exact Nat.le_of_ble_eq_true rfl)⟩, ⟨_, rfl, rfl, (by first | exact trivial | exact Nat.le_of_ble_eq_true rfl)⟩, trivial⟩ ⟨⟨_, rfl⟩, ⟨_, rfl⟩, trivial⟩ ⟨rfl, trivial⟩ rfl ?_
        have r1 : ((p % bs.length : Nat) : Int) = (IntKind.i64.wrap (IntKind.i64.wrap ((p : Int) + 1) - 1)).tmod (bs.length : Int) := by
          rw [e3, Int.tmod_eq_emod_of_nonneg (by omega), Int.natCast_emod]
        have hm := Nat.mod_lt p hL
        refine d_bin rfl rfl rfl ⟨rfl, rfl⟩ (.int .i64 ((p % bs.length : Nat) : Int)) (fun w => eqGuard_int w) (fun w => rem_run (by omega) r1 w) ?_
        refine d_idx (ti := tiOf tab) encByte tabOk rfl rfl rfl rfl rfl ⟨rfl, rfl⟩ (by first | exact rdAt 0 rfl | exact rdOwnAt 0 rfl | exact rdAt 1 rfl | exact rdOwnAt 1 rfl | exact rdAt 2 rfl | exact rdOwnAt 2 rfl | exact rdAt 3 rfl | exact rdOwnAt 3 rfl | exact rdAt 4 rfl | exact rdOwnAt 4 rfl | exact rdAt 5 rfl | exact rdOwnAt 5 rfl | exact rdAt 6 rfl | exact rdOwnAt 6 rfl | exact rdAt 7 rfl | exact rdOwnAt 7 rfl | exact rdAt 8 rfl | exact rdOwnAt 8 rfl | exact rdAt 9 rfl | exact rdOwnAt 9 rfl | exact rdAt 10 rfl | exact rdOwnAt 10 rfl | exact rdAt 11 rfl | exact rdOwnAt 11 rfl | exact rdAt 12 rfl | exact rdOwnAt 12 rfl | exact rdAt 13 rfl | exact rdOwnAt 13 rfl | exact rdAt 14 rfl | exact rdOwnAt 14 rfl | exact rdAt 15 rfl | exact rdOwnAt 15 rfl | exact rdAt 16 rfl | exact rdOwnAt 16 rfl | exact rdAt 17 rfl | exact rdOwnAt 17 rfl | exact rdAt 18 rfl | exact rdOwnAt 18 rfl | exact rdAt 19 rfl | exact rdOwnAt 19 rfl | exact rdAt 20 rfl | exact rdOwnAt 20 rfl | exact rdAt 21 rfl | exact rdOwnAt 21 rfl | exact rdAt 22 rfl | exact rdOwnAt 22 rfl | exact rdAt 23 rfl | exact rdOwnAt 23 rfl) (p % bs.length) rfl (by first | omega | (simp; done) | (simp; omega) | (unfold maxLen; omega) | (unfold maxLen; simp; done) | (unfold maxLen; simp; omega)) (fun ad => ?_)
        have r2 : (((p * 7 + 3) % bs.length : Nat) : Int) = (IntKind.i64.wrap (IntKind.i64.wrap (IntKind.i64.wrap (IntKind.i64.wrap ((p : Int) + 1) - 1) * 7) + 3)).tmod (bs.length : Int) := by
          rw [e3, show IntKind.i64.wrap ((p : Int) * 7) = ((p * 7 : Nat) : Int) by rw [wrap_nn] <;> omega, show IntKind.i64.wrap (((p * 7 : Nat) : Int) + 3) = ((p * 7 + 3 : Nat) : Int) by rw [wrap_nn] <;> omega, Int.tmod_eq_emod_of_nonneg (by omega), Int.natCast_emod]
        have hm2 := Nat.mod_lt (p * 7 + 3) hL
        refine d_bin rfl rfl rfl ⟨rfl, rfl⟩ (.int .i64 (((p * 7 + 3) % bs.length : Nat) : Int)) (fun w => eqGuard_int w) (fun w => rem_run (by omega) r2 w) ?_
        refine d_idx (ti := tiOf tab) encByte tabOk rfl rfl rfl rfl rfl ⟨rfl, rfl⟩ (by first | exact rdAt 0 rfl | exact rdOwnAt 0 rfl | exact rdAt 1 rfl | exact rdOwnAt 1 rfl | exact rdAt 2 rfl | exact rdOwnAt 2 rfl | exact rdAt 3 rfl | exact rdOwnAt 3 rfl | exact rdAt 4 rfl | exact rdOwnAt 4 rfl | exact rdAt 5 rfl | exact rdOwnAt 5 rfl | exact rdAt 6 rfl | exact rdOwnAt 6 rfl | exact rdAt 7 rfl | exact rdOwnAt 7 rfl | exact rdAt 8 rfl | exact rdOwnAt 8 rfl | exact rdAt 9 rfl | exact rdOwnAt 9 rfl | exact rdAt 10 rfl | exact rdOwnAt 10 rfl | exact rdAt 11 rfl | exact rdOwnAt 11 rfl | exact rdAt 12 rfl | exact rdOwnAt 12 rfl | exact rdAt 13 rfl | exact rdOwnAt 13 rfl | exact rdAt 14 rfl | exact rdOwnAt 14 rfl | exact rdAt 15 rfl | exact rdOwnAt 15 rfl | exact rdAt 16 rfl | exact rdOwnAt 16 rfl | exact rdAt 17 rfl | exact rdOwnAt 17 rfl | exact rdAt 18 rfl | exact rdOwnAt 18 rfl | exact rdAt 19 rfl | exact rdOwnAt 19 rfl | exact rdAt 20 rfl | exact rdOwnAt 20 rfl | exact rdAt 21 rfl | exact rdOwnAt 21 rfl | exact rdAt 22 rfl | exact rdOwnAt 22 rfl | exact rdAt 23 rfl | exact rdOwnAt 23 rfl) ((p * 7 + 3) % bs.length) rfl (by first | omega | (simp; done) | (simp; omega) | (unfold maxLen; omega) | (unfold maxLen; simp; done) | (unfold maxLen; simp; omega)) (fun ad2 => ?_)
        have r3 : ((p / bs.length : Nat) : Int) = IntKind.i64.wrap ((IntKind.i64.wrap (IntKind.i64.wrap ((p : Int) + 1) - 1)).tdiv (bs.length : Int)) := by
          have := Nat.div_le_self p bs.length
          have h0 : 0 ≤ ((p / bs.length : Nat) : Int) := Int.natCast_nonneg _
          rw [e3, Int.tdiv_eq_ediv_of_nonneg (by omega), ← Int.natCast_ediv, wrap_nn] <;> omega
        refine d_bin rfl rfl rfl ⟨rfl, rfl⟩ (.int .i64 ((p / bs.length : Nat) : Int)) (fun w => eqGuard_int w) (fun w => quo_run (by omega) r3 w) ?_
        have hb1 := bs[p % bs.length].toNat_lt
        have hb2 := bs[(p * 7 + 3) % bs.length].toNat_lt
        have hdl := Nat.div_le_self p bs.length
        obtain ⟨X, hX⟩ : ∃ X : Nat, X = bs[p % bs.length].toNat * 131 + bs[(p * 7 + 3) % bs.length].toNat * 1117 + p * 29 + p / bs.length * 53 := ⟨_, rfl⟩
        have r4 : IntKind.i64.wrap (IntKind.i64.wrap (IntKind.i64.wrap (IntKind.i64.wrap (IntKind.i64.wrap (bs[p % bs.length].toNat : Int) * 131) + IntKind.i64.wrap (IntKind.i64.wrap (bs[(p * 7 + 3) % bs.length].toNat : Int) * 1117)) + IntKind.i64.wrap (IntKind.i64.wrap (IntKind.i64.wrap ((p : Int) + 1) - 1) * 29)) + IntKind.i64.wrap (((p / bs.length : Nat) : Int) * 53)) = (X : Int) := by
          rw [e3]
          exact sum_wrap hb1 hb2 hp hdl hX
        have hXlt : X < 100000000000 := by
          generalize p / bs.length = q at *
          omega
        have r5 : ((X / 64 : Nat) : Int) = IntKind.i64.wrap ((IntKind.i64.wrap (IntKind.i64.wrap (IntKind.i64.wrap (IntKind.i64.wrap (IntKind.i64.wrap (bs[p % bs.length].toNat : Int) * 131) + IntKind.i64.wrap (IntKind.i64.wrap (bs[(p * 7 + 3) % bs.length].toNat : Int) * 1117)) + IntKind.i64.wrap (IntKind.i64.wrap (IntKind.i64.wrap ((p : Int) + 1) - 1) * 29)) + IntKind.i64.wrap (((p / bs.length : Nat) : Int) * 53))).tdiv 64) := by
          rw [r4, Int.tdiv_eq_ediv_of_nonneg (by omega), wrap_nn] <;> omega
        refine stop_bin rfl rfl rfl ⟨rfl, rfl⟩ (.int .i64 ((X / 64 : Nat) : Int)) (fun w => eqGuard_int w) (fun w => quo_run (by omega) r5 w) ?_
        obtain ⟨z, hz, hz2⟩ := xor_nn (x := (X : Int)) (y := ((X / 64 : Nat) : Int)) (by omega) (by omega) (by omega) (by omega)
        refine stop_bin rfl rfl rfl ⟨rfl, rfl⟩ (.int .i64 (z : Int)) (fun w => eqGuard_int w) (fun w => xor_run (by rw [r4]; exact hz.symm) w) ?_
        have r6 : ((z % n.toNat : Nat) : Int) = (z : Int).tmod n := by
          rw [Int.tmod_eq_emod_of_nonneg (by omega), Int.natCast_emod, Int.toNat_of_nonneg (by omega)]
        refine stop_bin rfl rfl rfl ⟨rfl, rfl⟩ (.int .i64 ((z % n.toNat : Nat) : Int)) (fun w => eqGuard_int w) (fun w => rem_run (by omega) r6 w) ?_
        refine retP [] ⟨_, rfl, fun _ => ?_, fun _ => by omega, by simp only [rdrV, e1], rfl⟩ rfl rfl trivial rfl trivial (fun _ => rfl)
        rw [Int.natCast_emod, Int.toNat_of_nonneg (by omega)]
        exact Int.emod_lt_of_pos _ (by omega)

end Go.Proofs.Ytjkkoonennpceaa

namespace Go.Proofs.Ytjkkoonennpceaa

open Go Go.Sx Go.RowKit

set_option maxRecDepth 100000 in
theorem num_c (g : Nat) (bi : Sl) (bs : List UInt8) (p : Nat) (i : Sl) (xs : List Int) (w : World) (hg : Blk w g 108 (rdrV bi bs p)) (h : AtP w g [slo bi cByte 1 bs, slo i cInt 1 xs]) (hb : bs.length ≤ 2000) (hp : p < 1000000000) (h0 : 0 < xs.length) :
    Calls Try.prog 58 #[.pointer (some ⟨g, 0, none⟩), i.val xs.length] w (RetP w g 108 2 fun v cs L => ∃ x : Int, v = .int .i64 x ∧ x ∈ xs ∧ cs = rdrV bi bs (p + 1) ∧ L = []) := by
  refine callsP2 Try.func58 rfl tabOk w _ rfl _ rfl _ 108 _ 2 rfl hg _ h ⟨rfl, rfl, rfl, rfl, trivial⟩ _ (by decide) ?_
  refine stop_callP _ cl57 rfl rfl rfl rfl ⟨rfl, rfl⟩ rfl rfl (fun A w ga hga hW hblk => (pick_c ga bi bs p xs.length w hblk ⟨(by first | exact hW.rdP _ hga rfl 0 rfl | exact hW.rdOwnP _ hga rfl 0 rfl | exact hW.rdP _ hga rfl 1 rfl | exact hW.rdOwnP _ hga rfl 1 rfl | exact hW.rdP _ hga rfl 2 rfl | exact hW.rdOwnP _ hga rfl 2 rfl | exact hW.rdP _ hga rfl 3 rfl | exact hW.rdOwnP _ hga rfl 3 rfl | exact hW.rdP _ hga rfl 4 rfl | exact hW.rdOwnP _ hga rfl 4 rfl | exact hW.rdP _ hga rfl 5 rfl | exact hW.rdOwnP _ hga rfl 5 rfl | exact hW.rdP _ hga rfl 6 rfl | exact hW.rdOwnP _ hga rfl 6 rfl | exact hW.rdP _ hga rfl 7 rfl | exact hW.rdOwnP _ hga rfl 7 rfl | exact hW.rdP _ hga rfl 8 rfl | exact hW.rdOwnP _ hga rfl 8 rfl | exact hW.rdP _ hga rfl 9 rfl | exact hW.rdOwnP _ hga rfl 9 rfl | exact hW.rdP _ hga rfl 10 rfl | exact hW.rdOwnP _ hga rfl 10 rfl | exact hW.rdP _ hga rfl 11 rfl | exact hW.rdOwnP _ hga rfl 11 rfl | exact hW.rdP _ hga rfl 12 rfl | exact hW.rdOwnP _ hga rfl 12 rfl | exact hW.rdP _ hga rfl 13 rfl | exact hW.rdOwnP _ hga rfl 13 rfl | exact hW.rdP _ hga rfl 14 rfl | exact hW.rdOwnP _ hga rfl 14 rfl | exact hW.rdP _ hga rfl 15 rfl | exact hW.rdOwnP _ hga rfl 15 rfl | exact hW.rdP _ hga rfl 16 rfl | exact hW.rdOwnP _ hga rfl 16 rfl | exact hW.rdP _ hga rfl 17 rfl | exact hW.rdOwnP _ hga rfl 17 rfl | exact hW.rdP _ hga rfl 18 rfl | exact hW.rdOwnP _ hga rfl 18 rfl | exact hW.rdP _ hga rfl 19 rfl | exact hW.rdOwnP _ hga rfl 19 rfl | exact hW.rdP _ hga rfl 20 rfl | exact hW.rdOwnP _ hga rfl 20 rfl | exact hW.rdP _ hga rfl 21 rfl | exact hW.rdOwnP _ hga rfl 21 rfl | exact hW.rdP _ hga rfl 22 rfl | exact hW.rdOwnP _ hga rfl 22 rfl | exact hW.rdP _ hga rfl 23 rfl | exact hW.rdOwnP _ hga rfl 23 rfl), trivial⟩ hb hp)) ?_
  rintro v cs L ⟨k, rfl, hk, _, rfl, rfl⟩
  have hlt : k < xs.length := by have := hk (by omega); omega
  refine stop_idx encInt tabOk rfl rfl rfl rfl rfl ⟨rfl, rfl⟩ (by first | exact rdAt 0 rfl | exact rdOwnAt 0 rfl | exact rdAt 1 rfl | exact rdOwnAt 1 rfl | exact rdAt 2 rfl | exact rdOwnAt 2 rfl | exact rdAt 3 rfl | exact rdOwnAt 3 rfl | exact rdAt 4 rfl | exact rdOwnAt 4 rfl | exact rdAt 5 rfl | exact rdOwnAt 5 rfl | exact rdAt 6 rfl | exact rdOwnAt 6 rfl | exact rdAt 7 rfl | exact rdOwnAt 7 rfl | exact rdAt 8 rfl | exact rdOwnAt 8 rfl | exact rdAt 9 rfl | exact rdOwnAt 9 rfl | exact rdAt 10 rfl | exact rdOwnAt 10 rfl | exact rdAt 11 rfl | exact rdOwnAt 11 rfl | exact rdAt 12 rfl | exact rdOwnAt 12 rfl | exact rdAt 13 rfl | exact rdOwnAt 13 rfl | exact rdAt 14 rfl | exact rdOwnAt 14 rfl | exact rdAt 15 rfl | exact rdOwnAt 15 rfl | exact rdAt 16 rfl | exact rdOwnAt 16 rfl | exact rdAt 17 rfl | exact rdOwnAt 17 rfl | exact rdAt 18 rfl | exact rdOwnAt 18 rfl | exact rdAt 19 rfl | exact rdOwnAt 19 rfl | exact rdAt 20 rfl | exact rdOwnAt 20 rfl | exact rdAt 21 rfl | exact rdOwnAt 21 rfl | exact rdAt 22 rfl | exact rdOwnAt 22 rfl | exact rdAt 23 rfl | exact rdOwnAt 23 rfl) k rfl (by first | omega | (simp; done) | (simp; omega) | (unfold maxLen; omega) | (unfold maxLen; simp; done) | (unfold maxLen; simp; omega)) (fun ad => ?_)
  exact retP [] ⟨_, rfl, List.getElem_mem hlt, rfl, rfl⟩ rfl rfl trivial rfl trivial (fun _ => rfl)

/-- The bytes that the reader reads. -/
def openI (i : Sl) (xs : List UInt8) : Sl := if 2000 < xs.length then i.cut 0 1 else i

set_option maxRecDepth 100000 in
theorem open_c (i : Sl) (xs : List UInt8) (w : World) (h : At w [slo i cByte 1 xs]) (hb : xs.length ≤ 4294967296) :
    Calls Try.prog 40 #[i.val xs.length] w (RetN w 108 2 fun cs L => cs = rdrV (openI i xs) (xs.take 2000) 0 ∧ L = []) := by
  refine calls1 Try.func40 rfl tabOk w _ rfl _ rfl _ h ⟨rfl, rfl, trivial⟩ _ (by decide) ?_
  refine CaseB.mk (fun h => ?_) (fun h => ?_)
  · have h1 : 2000 < xs.length := by simp at h; omega
    refine stop_cut tabOk rfl rfl rfl rfl ⟨rfl, rfl⟩ rfl rfl (by first | exact rdAt 0 rfl | exact rdOwnAt 0 rfl | exact rdAt 1 rfl | exact rdOwnAt 1 rfl | exact rdAt 2 rfl | exact rdOwnAt 2 rfl | exact rdAt 3 rfl | exact rdOwnAt 3 rfl | exact rdAt 4 rfl | exact rdOwnAt 4 rfl | exact rdAt 5 rfl | exact rdOwnAt 5 rfl | exact rdAt 6 rfl | exact rdOwnAt 6 rfl | exact rdAt 7 rfl | exact rdOwnAt 7 rfl | exact rdAt 8 rfl | exact rdOwnAt 8 rfl | exact rdAt 9 rfl | exact rdOwnAt 9 rfl | exact rdAt 10 rfl | exact rdOwnAt 10 rfl | exact rdAt 11 rfl | exact rdOwnAt 11 rfl | exact rdAt 12 rfl | exact rdOwnAt 12 rfl | exact rdAt 13 rfl | exact rdOwnAt 13 rfl | exact rdAt 14 rfl | exact rdOwnAt 14 rfl | exact rdAt 15 rfl | exact rdOwnAt 15 rfl | exact rdAt 16 rfl | exact rdOwnAt 16 rfl | exact rdAt 17 rfl | exact rdOwnAt 17 rfl | exact rdAt 18 rfl | exact rdOwnAt 18 rfl | exact rdAt 19 rfl | exact rdOwnAt 19 rfl | exact rdAt 20 rfl | exact rdOwnAt 20 rfl | exact rdAt 21 rfl | exact rdOwnAt 21 rfl | exact rdAt 22 rfl | exact rdOwnAt 22 rfl | exact rdAt 23 rfl | exact rdOwnAt 23 rfl) (0) (2000) ((xs.take 2000)).length rfl rfl (by first | omega | (simp; done) | (simp; omega) | (unfold maxLen; omega) | (unfold maxLen; simp; done) | (unfold maxLen; simp; omega)) (by first | omega | (simp; done) | (simp; omega) | (unfold maxLen; omega) | (unfold maxLen; simp; done) | (unfold maxLen; simp; omega)) (by first | omega | (simp; done) | (simp; omega) | (unfold maxLen; omega) | (unfold maxLen; simp; done) | (unfold maxLen; simp; omega)) ?_
    refine retN [] ⟨?_, rfl⟩ rfl rfl rfl trivial rfl trivial
    simp [rdrV, openI, h1]
  · have h1 : ¬ 2000 < xs.length := by simp at h; omega
    refine retN [] ⟨?_, rfl⟩ rfl rfl rfl trivial rfl trivial
    simp [rdrV, openI, h1, List.take_of_length_le (show xs.length ≤ 2000 by omega)]

/-- They can be read. -/
theorem openAt {w : World} {Q : Nat → Prop} {i : Sl} {xs : List UInt8} (h : (fSl true i 1 (cells cByte xs) xs.length).P w ∧ ∀ b, (fSl true i 1 (cells cByte xs) xs.length).foot b → Q b) :
    (fSl true (openI i xs) 1 (cells cByte (xs.take 2000)) (xs.take 2000).length).P w ∧ ∀ b, (fSl true (openI i xs) 1 (cells cByte (xs.take 2000)) (xs.take 2000).length).foot b → Q b := by
  unfold openI
  split
  · rename_i hl
    exact atCut encByte 0 2000 (by omega) (by omega) (by simp) h
  · rename_i hl
    rw [List.take_of_length_le (by omega)]
    exact h

end Go.Proofs.Ytjkkoonennpceaa

namespace Go.Proofs.Ytjkkoonennpceaa

open Go Go.Sx Go.RowKit

set_option maxRecDepth 100000 in
theorem l2Value_c (t : Int) (w : World) : Calls Try.prog 72 #[.int .i64 t] w (Ret w fun v L => v = .bool (isValue t) ∧ L = []) := by
  refine calls1 Try.func72 rfl tabOk w _ rfl _ rfl [] trivial trivial _ (by decide) ?_
  refine CaseB.mk (fun h => ?_) (fun h => ?_)
  all_goals
    refine retw [] ⟨?_, rfl⟩ trivial rfl trivial (fun _ => rfl)
    simp [isValue] at h ⊢
    omega

/-- The place of t in xs, or -1. -/
def atM : List Int → Int → Int
  | [], _ => -1
  | x :: r, t => if x = t then 0 else (if atM r t < 0 then -1 else atM r t + 1)

theorem atM_mem (xs : List Int) (t : Int) : 0 ≤ atM xs t ↔ t ∈ xs := by
  induction xs with
  | nil => simp [atM]
  | cons x r ih =>
    simp only [atM, List.mem_cons]
    split
    · rename_i h; simp [h]
    · rename_i h
      have h' : ¬ t = x := fun e => h e.symm
      simp only [h', false_or, ← ih]
      split <;> omega

theorem atM_none {xs : List Int} {t : Int} (h : t ∉ xs) : atM xs t = -1 := by
  induction xs with
  | nil => rfl
  | cons x r ih =>
    simp only [List.mem_cons, not_or] at h
    have := ih h.2
    simp only [atM]
    rw [if_neg (fun e => h.1 e.symm), if_pos (by omega)]

theorem atM_at {xs : List Int} {t : Int} {k : Nat} (hk : k < xs.length) (h : t ∉ xs.take k) (he : xs[k] = t) : atM xs t = (k : Int) := by
  induction xs generalizing k with
  | nil => simp at hk
  | cons x r ih =>
    cases k with
    | zero => simp at he; simp [atM, he]
    | succ k =>
      simp only [List.take_succ_cons, List.mem_cons, not_or] at h
      simp only [List.getElem_cons_succ] at he
      have := ih (by simpa using hk) h.2 he
      simp only [atM]
      rw [if_neg (fun e => h.1 e.symm), this, if_neg (by omega)]
      omega

theorem not_mem_take_succ {xs : List Int} {t : Int} {k : Nat} (hk : k < xs.length) (h : t ∉ xs.take k) (he : xs[k] ≠ t) : t ∉ xs.take (k + 1) := by
  rw [List.take_succ_eq_append_getElem hk]
  simp only [List.mem_append, List.mem_singleton, not_or]
  exact ⟨h, fun e => he e.symm⟩

theorem wrapN2 (k n : Nat) (h : k < n) (hn : n ≤ 8589934592) : IntKind.i64.wrap ((k : Int) + 1) = ((k + 1 : Nat) : Int) := by
  rw [IntKind.wrap_i64]; omega

set_option maxRecDepth 100000 in
theorem index_c (i : Sl) (xs : List Int) (t : Int) (w : World) (h : At w [slo i cInt 1 xs]) (hb : xs.length ≤ 8589934592) :
    Calls Try.prog 67 #[i.val xs.length, .int .i64 t] w (Ret w fun v L => v = .int .i64 (atM xs t) ∧ L = []) := by
  refine calls2 Try.func67 rfl tabOk w _ rfl _ rfl _ h ⟨rfl, rfl, trivial⟩ _ _ (by decide) ?_
  refine LoopW.mk ⟨{ k : Nat // k ≤ xs.length ∧ t ∉ xs.take k },
    fun p => .mk [(0, .v (i.val xs.length)), (1, .v (.int .i64 t)), (7, .v (.int .i64 xs.length)), (8, .v (.int .i64 p.1))] 0 0 [] [] [slo i cInt 1 xs],
    fun p => xs.length - p.1, ⟨0, Nat.zero_le _, by simp⟩, ?_, ?_⟩
  · refine weak_mk [0] ?_ ?_ ?_ ?_ ?_ rfl rfl
    · repeat (first | exact trivial | refine ⟨⟨_, rfl, (by first | exact .of rfl | exact .lit rfl | exact .of (by first | (rfl)) | exact .lit (by first | (rfl))), (by first | exact trivial | exact Nat.le_of_ble_eq_true rfl | exact small1 rfl)⟩, ?_⟩)
    · repeat (first | exact trivial | refine ⟨⟨(by first | exact .head _ | exact .tail _ (.head _) | exact .tail _ (.tail _ (.head _)) | exact .tail _ (.tail _ (.tail _ (.head _))) | exact .tail _ (.tail _ (.tail _ (.tail _ (.head _)))) | exact .tail _ (.tail _ (.tail _ (.tail _ (.tail _ (.head _))))) | exact .tail _ (.tail _ (.tail _ (.tail _ (.tail _ (.tail _ (.head _)))))) | exact .tail _ (.tail _ (.tail _ (.tail _ (.tail _ (.tail _ (.tail _ (.head _))))))) | exact .tail _ (.tail _ (.tail _ (.tail _ (.tail _ (.tail _ (.tail _ (.tail _ (.head _)))))))) | exact .tail _ (.tail _ (.tail _ (.tail _ (.tail _ (.tail _ (.tail _ (.tail _ (.tail _ (.head _)))))))))), Nat.le_of_ble_eq_true rfl⟩, ?_⟩)
    · repeat (first | exact trivial | refine ⟨⟨_, rfl, (by first | exact .of rfl | exact .lit rfl | exact .of (by first | (rfl)) | exact .lit (by first | (rfl))), (by first | exact trivial | exact Nat.le_of_ble_eq_true rfl | exact small1 rfl)⟩, ?_⟩)
    · repeat (first | exact trivial | refine ⟨⟨_, rfl⟩, ?_⟩)
    · repeat (first | exact trivial | refine ⟨.inl ⟨_, rfl, (by first | rfl | (rfl))⟩, ?_⟩ | refine ⟨.inr ⟨Nat.le_of_ble_eq_true rfl, rfl, rfl, rfl, rfl⟩, ?_⟩)
  · rintro ⟨k, hk, he⟩
    refine CaseB.mk (fun h => ?_) (fun h => ?_)
    · have hlt : k < xs.length := by simpa using h
      refine stop_idx encInt tabOk rfl rfl rfl rfl rfl ⟨rfl, rfl⟩ (by first | exact rdAt 0 rfl | exact rdOwnAt 0 rfl | exact rdAt 1 rfl | exact rdOwnAt 1 rfl | exact rdAt 2 rfl | exact rdOwnAt 2 rfl | exact rdAt 3 rfl | exact rdOwnAt 3 rfl | exact rdAt 4 rfl | exact rdOwnAt 4 rfl | exact rdAt 5 rfl | exact rdOwnAt 5 rfl | exact rdAt 6 rfl | exact rdOwnAt 6 rfl | exact rdAt 7 rfl | exact rdOwnAt 7 rfl | exact rdAt 8 rfl | exact rdOwnAt 8 rfl | exact rdAt 9 rfl | exact rdOwnAt 9 rfl | exact rdAt 10 rfl | exact rdOwnAt 10 rfl | exact rdAt 11 rfl | exact rdOwnAt 11 rfl | exact rdAt 12 rfl | exact rdOwnAt 12 rfl | exact rdAt 13 rfl | exact rdOwnAt 13 rfl | exact rdAt 14 rfl | exact rdOwnAt 14 rfl | exact rdAt 15 rfl | exact rdOwnAt 15 rfl | exact rdAt 16 rfl | exact rdOwnAt 16 rfl | exact rdAt 17 rfl | exact rdOwnAt 17 rfl | exact rdAt 18 rfl | exact rdOwnAt 18 rfl | exact rdAt 19 rfl | exact rdOwnAt 19 rfl | exact rdAt 20 rfl | exact rdOwnAt 20 rfl | exact rdAt 21 rfl | exact rdOwnAt 21 rfl | exact rdAt 22 rfl | exact rdOwnAt 22 rfl | exact rdAt 23 rfl | exact rdOwnAt 23 rfl) k rfl (by first | omega | (simp; done) | (simp; omega) | (unfold maxLen; omega) | (unfold maxLen; simp; done) | (unfold maxLen; simp; omega)) (fun ad => ?_)
      refine CaseB.mk (fun h => ?_) (fun h => ?_)
      · have heq : xs[k] = t := by have : t = xs[k] := by simpa using h
                                   exact this.symm
        exact retw [] ⟨congrArg (Value.int .i64) (atM_at hlt he heq).symm, rfl⟩ trivial rfl trivial (fun _ => rfl)
      · have hne : xs[k] ≠ t := fun e => by simp [e] at h
        have hw := wrapN2 k _ hlt hb
        refine ⟨⟨k + 1, by omega, not_mem_take_succ hlt he hne⟩, ?_, by simp; omega⟩
        refine weak_mk [0] ?_ ?_ ?_ ?_ ?_ rfl rfl
        · repeat (first | exact trivial | refine ⟨⟨_, rfl, (by first | exact .of rfl | exact .lit rfl | exact .of (by first | ((exact congrArg (fun z => SV.v (Value.int .i64 z)) hw))) | exact .lit (by first | ((exact congrArg (fun z => SV.v (Value.int .i64 z)) hw)))), (by first | exact trivial | exact Nat.le_of_ble_eq_true rfl | exact small1 rfl)⟩, ?_⟩)
        · repeat (first | exact trivial | refine ⟨⟨(by first | exact .head _ | exact .tail _ (.head _) | exact .tail _ (.tail _ (.head _)) | exact .tail _ (.tail _ (.tail _ (.head _))) | exact .tail _ (.tail _ (.tail _ (.tail _ (.head _)))) | exact .tail _ (.tail _ (.tail _ (.tail _ (.tail _ (.head _))))) | exact .tail _ (.tail _ (.tail _ (.tail _ (.tail _ (.tail _ (.head _)))))) | exact .tail _ (.tail _ (.tail _ (.tail _ (.tail _ (.tail _ (.tail _ (.head _))))))) | exact .tail _ (.tail _ (.tail _ (.tail _ (.tail _ (.tail _ (.tail _ (.tail _ (.head _)))))))) | exact .tail _ (.tail _ (.tail _ (.tail _ (.tail _ (.tail _ (.tail _ (.tail _ (.tail _ (.head _)))))))))), Nat.le_of_ble_eq_true rfl⟩, ?_⟩)
        · repeat (first | exact trivial | refine ⟨⟨_, rfl, (by first | exact .of rfl | exact .lit rfl | exact .of (by first | ((exact congrArg (fun z => SV.v (Value.int .i64 z)) hw))) | exact .lit (by first | ((exact congrArg (fun z => SV.v (Value.int .i64 z)) hw)))), (by first | exact trivial | exact Nat.le_of_ble_eq_true rfl | exact small1 rfl)⟩, ?_⟩)
        · repeat (first | exact trivial | refine ⟨⟨_, rfl⟩, ?_⟩)
        · repeat (first | exact trivial | refine ⟨.inl ⟨_, rfl, (by first | rfl | ((exact congrArg (fun z => SV.v (Value.int .i64 z)) hw)))⟩, ?_⟩ | refine ⟨.inr ⟨Nat.le_of_ble_eq_true rfl, rfl, rfl, rfl, rfl⟩, ?_⟩)
    · have hge : xs.length ≤ k := by simpa using h
      rw [List.take_of_length_le hge] at he
      exact retw [] ⟨congrArg (Value.int .i64) (atM_none he).symm, rfl⟩ trivial rfl trivial (fun _ => rfl)

set_option maxRecDepth 100000 in
theorem contains_c (i : Sl) (xs : List Int) (t : Int) (w : World) (h : At w [slo i cInt 1 xs]) (hb : xs.length ≤ 8589934592) :
    Calls Try.prog 53 #[i.val xs.length, .int .i64 t] w (Ret w fun v L => v = .bool (decide (t ∈ xs)) ∧ L = []) := by
  refine calls2 Try.func53 rfl tabOk w _ rfl _ rfl _ h ⟨rfl, rfl, trivial⟩ _ _ (by decide) ?_
  refine stop_call _ cl67 rfl rfl rfl rfl ⟨rfl, rfl⟩ (fun A w hW => index_c i xs t w ⟨(by first | exact hW.rd 0 rfl | exact hW.rdOwn 0 rfl | exact hW.rd 1 rfl | exact hW.rdOwn 1 rfl | exact hW.rd 2 rfl | exact hW.rdOwn 2 rfl | exact hW.rd 3 rfl | exact hW.rdOwn 3 rfl | exact hW.rd 4 rfl | exact hW.rdOwn 4 rfl | exact hW.rd 5 rfl | exact hW.rdOwn 5 rfl | exact hW.rd 6 rfl | exact hW.rdOwn 6 rfl | exact hW.rd 7 rfl | exact hW.rdOwn 7 rfl | exact hW.rd 8 rfl | exact hW.rdOwn 8 rfl | exact hW.rd 9 rfl | exact hW.rdOwn 9 rfl | exact hW.rd 10 rfl | exact hW.rdOwn 10 rfl | exact hW.rd 11 rfl | exact hW.rdOwn 11 rfl | exact hW.rd 12 rfl | exact hW.rdOwn 12 rfl | exact hW.rd 13 rfl | exact hW.rdOwn 13 rfl | exact hW.rd 14 rfl | exact hW.rdOwn 14 rfl | exact hW.rd 15 rfl | exact hW.rdOwn 15 rfl | exact hW.rd 16 rfl | exact hW.rdOwn 16 rfl | exact hW.rd 17 rfl | exact hW.rdOwn 17 rfl | exact hW.rd 18 rfl | exact hW.rdOwn 18 rfl | exact hW.rd 19 rfl | exact hW.rdOwn 19 rfl | exact hW.rd 20 rfl | exact hW.rdOwn 20 rfl | exact hW.rd 21 rfl | exact hW.rdOwn 21 rfl | exact hW.rd 22 rfl | exact hW.rdOwn 22 rfl | exact hW.rd 23 rfl | exact hW.rdOwn 23 rfl), trivial⟩ hb) ?_
  rintro v L ⟨rfl, rfl⟩
  refine retw [] ⟨?_, rfl⟩ trivial rfl trivial (fun _ => rfl)
  simp [atM_mem]

/-- Distinct threads. -/
def distinct (xs : List Int) : Bool := decide (xs.Nodup ∧ ∀ x ∈ xs, isThread x = true)

theorem aget_mem (xs : List Int) (x : Int) : aget (xs.map fun y => (y, true)) x = if x ∈ xs then some true else none := by
  induction xs with
  | nil => simp [aget]
  | cons y r ih =>
    simp only [List.map_cons, aget, ih, List.mem_cons]
    by_cases h : y = x
    · simp [h]
    · have h' : ¬ x = y := fun e => h e.symm
      simp [h, h']

theorem aset_new (xs : List Int) (x : Int) (h : x ∉ xs) : aset (xs.map fun y => (y, true)) x true = (xs ++ [x]).map fun y => (y, true) := by
  rw [aset_none true (by have := aget_mem xs x; rw [if_neg h, aget_idx] at this; cases hi : aidx (xs.map fun y => (y, true)) x <;> simp [hi] at this; rfl)]
  simp

theorem nodup_take_succ {xs : List Int} {k : Nat} (hk : k < xs.length) : (xs.take (k + 1)).Nodup ↔ (xs.take k).Nodup ∧ xs[k] ∉ xs.take k := by
  rw [List.take_succ_eq_append_getElem hk, List.nodup_append]
  simp only [List.nodup_cons, List.not_mem_nil, not_false_eq_true, List.nodup_nil, and_self, List.mem_singleton, ne_eq, true_and]
  constructor
  · rintro ⟨h1, h2⟩
    exact ⟨h1, fun h => h2 _ h _ rfl rfl⟩
  · rintro ⟨h1, h2⟩
    exact ⟨h1, fun a ha b hb e => h2 (by rw [← hb, ← e]; exact ha)⟩

theorem distinct_no {xs : List Int} {k : Nat} (hk : k < xs.length) (h : isThread xs[k] = false ∨ xs[k] ∈ xs.take k) : distinct xs = false := by
  simp only [distinct, decide_eq_false_iff_not]
  rintro ⟨h1, h2⟩
  rcases h with h | h
  · rw [h2 _ (List.getElem_mem hk)] at h; cases h
  · exact ((nodup_take_succ hk).1 (h1.sublist (List.take_sublist _ _))).2 h

def venB (b : Bool) : Value := .bool b

set_option maxRecDepth 100000 in
theorem distinctThreads_c (i : Sl) (xs : List Int) (w : World) (h : At w [slo i cInt 1 xs]) (hb : xs.length ≤ 8589934592) :
    Calls Try.prog 50 #[i.val xs.length] w (Ret w fun v L => v = .bool (distinct xs) ∧ L = []) := by
  refine calls1 Try.func50 rfl tabOk w _ rfl _ rfl _ h ⟨rfl, rfl, trivial⟩ _ (by decide) ?_
  refine stop_makeMap venB rfl ⟨rfl, rfl⟩ (fun r => ?_)
  refine LoopW.mk ⟨{ k : Nat // k ≤ xs.length ∧ (xs.take k).Nodup ∧ ∀ x ∈ xs.take k, isThread x = true },
    fun p => .mk [(3, .v (.map (some r))), (7, .v (i.val xs.length)), (8, .v (.int .i64 xs.length)), (9, .v (.int .i64 p.1))] 0 0 [] [] [fMap r venB ((xs.take p.1).map fun y => (y, true)), slo i cInt 1 xs],
    fun p => xs.length - p.1, ⟨0, Nat.zero_le _, by simp, by simp⟩, ?_, ?_⟩
  · refine weak_mk [0, 1] ?_ ?_ ?_ ?_ ?_ rfl rfl
    · repeat (first | exact trivial | refine ⟨⟨_, rfl, (by first | exact .of rfl | exact .lit rfl | exact .of (by first | (rfl)) | exact .lit (by first | (rfl))), (by first | exact trivial | exact Nat.le_of_ble_eq_true rfl | exact small1 rfl)⟩, ?_⟩)
    · repeat (first | exact trivial | refine ⟨⟨(by first | exact .head _ | exact .tail _ (.head _) | exact .tail _ (.tail _ (.head _)) | exact .tail _ (.tail _ (.tail _ (.head _))) | exact .tail _ (.tail _ (.tail _ (.tail _ (.head _)))) | exact .tail _ (.tail _ (.tail _ (.tail _ (.tail _ (.head _))))) | exact .tail _ (.tail _ (.tail _ (.tail _ (.tail _ (.tail _ (.head _)))))) | exact .tail _ (.tail _ (.tail _ (.tail _ (.tail _ (.tail _ (.tail _ (.head _))))))) | exact .tail _ (.tail _ (.tail _ (.tail _ (.tail _ (.tail _ (.tail _ (.tail _ (.head _)))))))) | exact .tail _ (.tail _ (.tail _ (.tail _ (.tail _ (.tail _ (.tail _ (.tail _ (.tail _ (.head _)))))))))), Nat.le_of_ble_eq_true rfl⟩, ?_⟩)
    · repeat (first | exact trivial | refine ⟨⟨_, rfl, (by first | exact .of rfl | exact .lit rfl | exact .of (by first | (rfl)) | exact .lit (by first | (rfl))), (by first | exact trivial | exact Nat.le_of_ble_eq_true rfl | exact small1 rfl)⟩, ?_⟩)
    · repeat (first | exact trivial | refine ⟨⟨_, rfl⟩, ?_⟩)
    · repeat (first | exact trivial | refine ⟨.inl ⟨_, rfl, (by first | rfl | (rfl))⟩, ?_⟩ | refine ⟨.inr ⟨Nat.le_of_ble_eq_true rfl, rfl, rfl, rfl, rfl⟩, ?_⟩)
  · rintro ⟨k, hk, hn, ha⟩
    refine CaseB.mk (fun h => ?_) (fun h => ?_)
    · have hlt : k < xs.length := by simpa using h
      refine stop_idx encInt tabOk rfl rfl rfl rfl rfl ⟨rfl, rfl⟩ (by first | exact rdAt 0 rfl | exact rdOwnAt 0 rfl | exact rdAt 1 rfl | exact rdOwnAt 1 rfl | exact rdAt 2 rfl | exact rdOwnAt 2 rfl | exact rdAt 3 rfl | exact rdOwnAt 3 rfl | exact rdAt 4 rfl | exact rdOwnAt 4 rfl | exact rdAt 5 rfl | exact rdOwnAt 5 rfl | exact rdAt 6 rfl | exact rdOwnAt 6 rfl | exact rdAt 7 rfl | exact rdOwnAt 7 rfl | exact rdAt 8 rfl | exact rdOwnAt 8 rfl | exact rdAt 9 rfl | exact rdOwnAt 9 rfl | exact rdAt 10 rfl | exact rdOwnAt 10 rfl | exact rdAt 11 rfl | exact rdOwnAt 11 rfl | exact rdAt 12 rfl | exact rdOwnAt 12 rfl | exact rdAt 13 rfl | exact rdOwnAt 13 rfl | exact rdAt 14 rfl | exact rdOwnAt 14 rfl | exact rdAt 15 rfl | exact rdOwnAt 15 rfl | exact rdAt 16 rfl | exact rdOwnAt 16 rfl | exact rdAt 17 rfl | exact rdOwnAt 17 rfl | exact rdAt 18 rfl | exact rdOwnAt 18 rfl | exact rdAt 19 rfl | exact rdOwnAt 19 rfl | exact rdAt 20 rfl | exact rdOwnAt 20 rfl | exact rdAt 21 rfl | exact rdOwnAt 21 rfl | exact rdAt 22 rfl | exact rdOwnAt 22 rfl | exact rdAt 23 rfl | exact rdOwnAt 23 rfl) k rfl (by first | omega | (simp; done) | (simp; omega) | (unfold maxLen; omega) | (unfold maxLen; simp; done) | (unfold maxLen; simp; omega)) (fun ad => ?_)
      refine stop_call _ cl52 rfl rfl rfl rfl ⟨rfl, rfl⟩ (fun A w hW => isThread_c _ w) ?_
      rintro v L ⟨rfl, rfl⟩
      refine CaseB.mk (fun h => ?_) (fun h => ?_)
      · have h1 : isThread xs[k] = false := by simpa using h
        exact retw [] ⟨congrArg Value.bool (distinct_no hlt (.inl h1)).symm, rfl⟩ trivial rfl trivial (fun _ => rfl)
      · have h1 : isThread xs[k] = true := by simpa using h
        by_cases hm : xs[k] ∈ xs.take k
        · refine stop_lookup 0 (qk := .i64) (kt := 3) (et := 4) (z := (.bool false)) rfl rfl rfl rfl ⟨rfl, rfl⟩ (by kernel_rfl) (by kernel_rfl) (by kernel_rfl) (.bool true) (by rw [aget_mem, if_pos hm]; rfl) ?_
          refine CaseB.mk (fun h => ?_) (fun h => by cases h)
          exact retw [] ⟨congrArg Value.bool (distinct_no hlt (.inr hm)).symm, rfl⟩ trivial rfl trivial (fun _ => rfl)
        · refine stop_lookup 0 (qk := .i64) (kt := 3) (et := 4) (z := (.bool false)) rfl rfl rfl rfl ⟨rfl, rfl⟩ (by kernel_rfl) (by kernel_rfl) (by kernel_rfl) (.bool false) (by rw [aget_mem, if_neg hm]) ?_
          refine CaseB.mk (fun h => by cases h) (fun h => ?_)
          have hT : xs.take (k + 1) = xs.take k ++ [xs[k]] := List.take_succ_eq_append_getElem hlt
          refine stop_mapset 0 true (qk := .i64) (kt := 3) (et := 4) rfl rfl rfl rfl (fun _ => rfl) rfl rfl (by kernel_rfl) (by kernel_rfl) ((xs.take (k + 1)).map fun y => (y, true)) (by rw [aset_new _ _ hm, hT]) ?_
          have hw := wrapN2 k _ hlt hb
          refine ⟨⟨k + 1, by omega, (nodup_take_succ hlt).2 ⟨hn, hm⟩, ?_⟩, ?_, by simp; omega⟩
          · intro x hx
            rw [hT] at hx
            rcases List.mem_append.1 hx with hx | hx
            · exact ha x hx
            · simp at hx; subst hx; exact h1
          · refine weak_mk [0, 1] ?_ ?_ ?_ ?_ ?_ rfl rfl
            · repeat (first | exact trivial | refine ⟨⟨_, rfl, (by first | exact .of rfl | exact .lit rfl | exact .of (by first | ((exact congrArg (fun z => SV.v (Value.int .i64 z)) hw))) | exact .lit (by first | ((exact congrArg (fun z => SV.v (Value.int .i64 z)) hw)))), (by first | exact trivial | exact Nat.le_of_ble_eq_true rfl | exact small1 rfl)⟩, ?_⟩)
            · repeat (first | exact trivial | refine ⟨⟨(by first | exact .head _ | exact .tail _ (.head _) | exact .tail _ (.tail _ (.head _)) | exact .tail _ (.tail _ (.tail _ (.head _))) | exact .tail _ (.tail _ (.tail _ (.tail _ (.head _)))) | exact .tail _ (.tail _ (.tail _ (.tail _ (.tail _ (.head _))))) | exact .tail _ (.tail _ (.tail _ (.tail _ (.tail _ (.tail _ (.head _)))))) | exact .tail _ (.tail _ (.tail _ (.tail _ (.tail _ (.tail _ (.tail _ (.head _))))))) | exact .tail _ (.tail _ (.tail _ (.tail _ (.tail _ (.tail _ (.tail _ (.tail _ (.head _)))))))) | exact .tail _ (.tail _ (.tail _ (.tail _ (.tail _ (.tail _ (.tail _ (.tail _ (.tail _ (.head _)))))))))), Nat.le_of_ble_eq_true rfl⟩, ?_⟩)
            · repeat (first | exact trivial | refine ⟨⟨_, rfl, (by first | exact .of rfl | exact .lit rfl | exact .of (by first | ((exact congrArg (fun z => SV.v (Value.int .i64 z)) hw))) | exact .lit (by first | ((exact congrArg (fun z => SV.v (Value.int .i64 z)) hw)))), (by first | exact trivial | exact Nat.le_of_ble_eq_true rfl | exact small1 rfl)⟩, ?_⟩)
            · repeat (first | exact trivial | refine ⟨⟨_, rfl⟩, ?_⟩)
            · repeat (first | exact trivial | refine ⟨.inl ⟨_, rfl, (by first | rfl | ((exact congrArg (fun z => SV.v (Value.int .i64 z)) hw)))⟩, ?_⟩ | refine ⟨.inr ⟨Nat.le_of_ble_eq_true rfl, rfl, rfl, rfl, rfl⟩, ?_⟩)
    · have hge : xs.length ≤ k := by simpa using h
      rw [List.take_of_length_le hge] at hn ha
      refine retw [] ⟨?_, rfl⟩ trivial rfl trivial (fun _ => rfl)
      simp only [distinct, Value.bool.injEq]
      exact (decide_eq_true ⟨hn, ha⟩).symm

end Go.Proofs.Ytjkkoonennpceaa

namespace Go.Proofs.Ytjkkoonennpceaa

open Go Go.Sx Go.RowKit

theorem list2 {α β : Type} {fs : List α} {h : α → β} {a b : β} (hF : fs.map h = [a, b]) : ∃ f g, fs = [f, g] ∧ h f = a ∧ h g = b := by
  cases fs with
  | nil => simp at hF
  | cons f r =>
    cases r with
    | nil => simp at hF
    | cons g r =>
      cases r with
      | nil => simp at hF; exact ⟨f, g, rfl, hF.1, hF.2⟩
      | cons _ _ => simp at hF

theorem part_one {P : Program} {t : TypeId} {d : TypeDesc} (hd : P.underlying t = some d) (ha : isAggD d = false) (cs : Array Value) (off : Nat) (v : Value) (h : cs[off]? = some v) (w : World) : (part t cs off).run P w = .ok v w := by
  unfold part
  rw [Sem.run_bind, run_isAgg hd, ha]
  simp [h]

theorem eqLet (x y : Letter) (w : World) : (binOp .neq 101 (.agg (cLet x).toArray) (.agg (cLet y).toArray)).run Try.prog w = .ok (.bool (decide (x ≠ y))) w := by
  have hS : Try.prog.underlying 101 = some (.struct (Try.prog.fieldsOf 101)) := by kernel_rfl
  have hI : Try.prog.underlying 3 = some (.int .i64) := by kernel_rfl
  have hF : (Try.prog.fieldsOf 101).toList.map (fun f => (f.name == "_", f.type, f.offset)) = [(false, 3, 0), (false, 3, 1)] := by kernel_rfl
  have hp : Try.prog.stoodInHeld 101 = false := by kernel_rfl
  obtain ⟨xt, xv⟩ := x
  obtain ⟨yt, yv⟩ := y
  rw [run_neq_struct, show (10000 : Nat) = 9999 + 1 from rfl, run_equalIn_agg w 9999 101 _ _ hS hp]
  obtain ⟨f, g, e, hf, hg⟩ := list2 hF
  simp only [Prod.mk.injEq] at hf hg
  obtain ⟨f1, f2, f3⟩ := hf
  obtain ⟨g1, g2, g3⟩ := hg
  have f1' : f.name ≠ "_" := by simpa using f1
  have g1' : g.name ≠ "_" := by simpa using g1
  have p1 := part_one hI rfl (cLet ⟨xt, xv⟩).toArray 0 (.int .i64 xt) rfl w
  have p2 := part_one hI rfl (cLet ⟨yt, yv⟩).toArray 0 (.int .i64 yt) rfl w
  have p3 := part_one hI rfl (cLet ⟨xt, xv⟩).toArray 1 (.int .i64 xv) rfl w
  have p4 := part_one hI rfl (cLet ⟨yt, yv⟩).toArray 1 (.int .i64 yv) rfl w
  have q1 : (Op.equalIn 9999 3 (.int .i64 xt) (.int .i64 yt)).run Try.prog w = .ok (xt == yt) w := run_equalIn_int w 9998 3 .i64 .i64 xt yt hI
  have q2 : (Op.equalIn 9999 3 (.int .i64 xv) (.int .i64 yv)).run Try.prog w = .ok (xv == yv) w := run_equalIn_int w 9998 3 .i64 .i64 xv yv hI
  simp only [e, Op.eqFields, f2, f3, g2, g3, f1', g1', ne_eq, not_false_eq_true, if_true, Sem.run_bind, p1, p2, Result.andThen_ok, q1]
  by_cases h1 : xt = yt
  · subst h1
    by_cases h2 : xv = yv
    · subst h2; simp [p3, q2]
    · simp [h2, p3, p4, q2]
  · simp [h1]

set_option maxRecDepth 100000 in
theorem eqLets_c (i j : Sl) (xs ys : List Letter) (w : World) (h : At w [slo i cLet 2 xs, slo j cLet 2 ys]) (hb : xs.length ≤ 4294967296) (hb2 : ys.length ≤ 4294967296) :
    Calls Try.prog 46 #[i.val xs.length, j.val ys.length] w (Ret w fun v L => v = .bool (decide (xs = ys)) ∧ L = []) := by
  refine calls2 Try.func46 rfl tabOk w _ rfl _ rfl _ h ⟨rfl, rfl, rfl, rfl, trivial⟩ _ _ (by decide) ?_
  refine CaseB.mk (fun h => ?_) (fun h => ?_)
  · have hne : xs ≠ ys := by rintro rfl; simp at h
    refine retw [] ⟨?_, rfl⟩ trivial rfl trivial (fun _ => rfl)
    simp [hne]
  · have hl : xs.length = ys.length := by simp at h; omega
    refine LoopW.mk ⟨{ k : Nat // k ≤ xs.length ∧ xs.take k = ys.take k },
      fun p => .mk [(0, .v (i.val xs.length)), (1, .v (j.val ys.length)), (12, .v (.int .i64 xs.length)), (13, .v (.int .i64 p.1))] 0 0 [] [] [slo i cLet 2 xs, slo j cLet 2 ys],
      fun p => xs.length - p.1, ⟨0, Nat.zero_le _, rfl⟩, ?_, ?_⟩
    · refine weak_mk [0, 1] ?_ ?_ ?_ ?_ ?_ rfl rfl
      · repeat (first | exact trivial | refine ⟨⟨_, rfl, (by first | exact .of rfl | exact .lit rfl | exact .of (by first | (rfl)) | exact .lit (by first | (rfl))), (by first | exact trivial | exact Nat.le_of_ble_eq_true rfl | exact small1 rfl)⟩, ?_⟩)
      · repeat (first | exact trivial | refine ⟨⟨(by first | exact .head _ | exact .tail _ (.head _) | exact .tail _ (.tail _ (.head _)) | exact .tail _ (.tail _ (.tail _ (.head _))) | exact .tail _ (.tail _ (.tail _ (.tail _ (.head _)))) | exact .tail _ (.tail _ (.tail _ (.tail _ (.tail _ (.head _))))) | exact .tail _ (.tail _ (.tail _ (.tail _ (.tail _ (.tail _ (.head _)))))) | exact .tail _ (.tail _ (.tail _ (.tail _ (.tail _ (.tail _ (.tail _ (.head _))))))) | exact .tail _ (.tail _ (.tail _ (.tail _ (.tail _ (.tail _ (.tail _ (.tail _ (.head _)))))))) | exact .tail _ (.tail _ (.tail _ (.tail _ (.tail _ (.tail _ (.tail _ (.tail _ (.tail _ (.head _)))))))))), Nat.le_of_ble_eq_true rfl⟩, ?_⟩)
      · repeat (first | exact trivial | refine ⟨⟨_, rfl, (by first | exact .of rfl | exact .lit rfl | exact .of (by first | (rfl)) | exact .lit (by first | (rfl))), (by first | exact trivial | exact Nat.le_of_ble_eq_true rfl | exact small1 rfl)⟩, ?_⟩)
      · repeat (first | exact trivial | refine ⟨⟨_, rfl⟩, ?_⟩)
      · repeat (first | exact trivial | refine ⟨.inl ⟨_, rfl, (by first | rfl | (rfl))⟩, ?_⟩ | refine ⟨.inr ⟨Nat.le_of_ble_eq_true rfl, rfl, rfl, rfl, rfl⟩, ?_⟩)
    · rintro ⟨k, hk, he⟩
      refine CaseB.mk (fun h => ?_) (fun h => ?_)
      · have hlt : k < xs.length := by simpa using h
        have hlt2 : k < ys.length := by omega
        obtain ⟨q1, q2⟩ := take_eq_succ he hlt hlt2
        refine draw_start tabOk (by kernel_rfl) (by kernel_rfl) (by kernel_rfl) 200 [] [0, 1] [_, _] trivial trivial ⟨rfl, rfl, trivial⟩ rfl ?_
        refine d_idx (ti := tiOf tab) encLet tabOk rfl rfl rfl rfl rfl ⟨rfl, rfl⟩ (by first | exact rdAt 0 rfl | exact rdOwnAt 0 rfl | exact rdAt 1 rfl | exact rdOwnAt 1 rfl | exact rdAt 2 rfl | exact rdOwnAt 2 rfl | exact rdAt 3 rfl | exact rdOwnAt 3 rfl | exact rdAt 4 rfl | exact rdOwnAt 4 rfl | exact rdAt 5 rfl | exact rdOwnAt 5 rfl | exact rdAt 6 rfl | exact rdOwnAt 6 rfl | exact rdAt 7 rfl | exact rdOwnAt 7 rfl | exact rdAt 8 rfl | exact rdOwnAt 8 rfl | exact rdAt 9 rfl | exact rdOwnAt 9 rfl | exact rdAt 10 rfl | exact rdOwnAt 10 rfl | exact rdAt 11 rfl | exact rdOwnAt 11 rfl | exact rdAt 12 rfl | exact rdOwnAt 12 rfl | exact rdAt 13 rfl | exact rdOwnAt 13 rfl | exact rdAt 14 rfl | exact rdOwnAt 14 rfl | exact rdAt 15 rfl | exact rdOwnAt 15 rfl | exact rdAt 16 rfl | exact rdOwnAt 16 rfl | exact rdAt 17 rfl | exact rdOwnAt 17 rfl | exact rdAt 18 rfl | exact rdOwnAt 18 rfl | exact rdAt 19 rfl | exact rdOwnAt 19 rfl | exact rdAt 20 rfl | exact rdOwnAt 20 rfl | exact rdAt 21 rfl | exact rdOwnAt 21 rfl | exact rdAt 22 rfl | exact rdOwnAt 22 rfl | exact rdAt 23 rfl | exact rdOwnAt 23 rfl) k rfl (by first | omega | (simp; done) | (simp; omega) | (unfold maxLen; omega) | (unfold maxLen; simp; done) | (unfold maxLen; simp; omega)) (fun ad => ?_)
        refine d_idx (ti := tiOf tab) encLet tabOk rfl rfl rfl rfl rfl ⟨rfl, rfl⟩ (by first | exact rdAt 0 rfl | exact rdOwnAt 0 rfl | exact rdAt 1 rfl | exact rdOwnAt 1 rfl | exact rdAt 2 rfl | exact rdOwnAt 2 rfl | exact rdAt 3 rfl | exact rdOwnAt 3 rfl | exact rdAt 4 rfl | exact rdOwnAt 4 rfl | exact rdAt 5 rfl | exact rdOwnAt 5 rfl | exact rdAt 6 rfl | exact rdOwnAt 6 rfl | exact rdAt 7 rfl | exact rdOwnAt 7 rfl | exact rdAt 8 rfl | exact rdOwnAt 8 rfl | exact rdAt 9 rfl | exact rdOwnAt 9 rfl | exact rdAt 10 rfl | exact rdOwnAt 10 rfl | exact rdAt 11 rfl | exact rdOwnAt 11 rfl | exact rdAt 12 rfl | exact rdOwnAt 12 rfl | exact rdAt 13 rfl | exact rdOwnAt 13 rfl | exact rdAt 14 rfl | exact rdOwnAt 14 rfl | exact rdAt 15 rfl | exact rdOwnAt 15 rfl | exact rdAt 16 rfl | exact rdOwnAt 16 rfl | exact rdAt 17 rfl | exact rdOwnAt 17 rfl | exact rdAt 18 rfl | exact rdOwnAt 18 rfl | exact rdAt 19 rfl | exact rdOwnAt 19 rfl | exact rdAt 20 rfl | exact rdOwnAt 20 rfl | exact rdAt 21 rfl | exact rdOwnAt 21 rfl | exact rdAt 22 rfl | exact rdOwnAt 22 rfl | exact rdAt 23 rfl | exact rdOwnAt 23 rfl) k rfl (by first | omega | (simp; done) | (simp; omega) | (unfold maxLen; omega) | (unfold maxLen; simp; done) | (unfold maxLen; simp; omega)) (fun ad2 => ?_)
        refine d_bin rfl rfl rfl ⟨rfl, rfl⟩ (.bool (decide (xs[k] ≠ ys[k]))) (fun w => (run_eqGuard_agg w _ _ _ _ _ _ (by kernel_rfl))) (fun w => (eqLet _ _ w)) ?_
        refine CaseB.mk (fun h => ?_) (fun h => ?_)
        · have hne := q2 (by simpa using h)
          refine retw [] ⟨?_, rfl⟩ trivial rfl trivial (fun _ => rfl)
          simp [hne]
        · have heq := q1 (by simpa using h)
          have hw := wrapN k _ hlt hb
          refine ⟨⟨k + 1, by omega, heq⟩, ?_, by simp; omega⟩
          refine weak_mk [0, 1] ?_ ?_ ?_ ?_ ?_ rfl rfl
          · repeat (first | exact trivial | refine ⟨⟨_, rfl, (by first | exact .of rfl | exact .lit rfl | exact .of (by first | ((exact congrArg (fun z => SV.v (Value.int .i64 z)) hw))) | exact .lit (by first | ((exact congrArg (fun z => SV.v (Value.int .i64 z)) hw)))), (by first | exact trivial | exact Nat.le_of_ble_eq_true rfl | exact small1 rfl)⟩, ?_⟩)
          · repeat (first | exact trivial | refine ⟨⟨(by first | exact .head _ | exact .tail _ (.head _) | exact .tail _ (.tail _ (.head _)) | exact .tail _ (.tail _ (.tail _ (.head _))) | exact .tail _ (.tail _ (.tail _ (.tail _ (.head _)))) | exact .tail _ (.tail _ (.tail _ (.tail _ (.tail _ (.head _))))) | exact .tail _ (.tail _ (.tail _ (.tail _ (.tail _ (.tail _ (.head _)))))) | exact .tail _ (.tail _ (.tail _ (.tail _ (.tail _ (.tail _ (.tail _ (.head _))))))) | exact .tail _ (.tail _ (.tail _ (.tail _ (.tail _ (.tail _ (.tail _ (.tail _ (.head _)))))))) | exact .tail _ (.tail _ (.tail _ (.tail _ (.tail _ (.tail _ (.tail _ (.tail _ (.tail _ (.head _)))))))))), Nat.le_of_ble_eq_true rfl⟩, ?_⟩)
          · repeat (first | exact trivial | refine ⟨⟨_, rfl, (by first | exact .of rfl | exact .lit rfl | exact .of (by first | ((exact congrArg (fun z => SV.v (Value.int .i64 z)) hw))) | exact .lit (by first | ((exact congrArg (fun z => SV.v (Value.int .i64 z)) hw)))), (by first | exact trivial | exact Nat.le_of_ble_eq_true rfl | exact small1 rfl)⟩, ?_⟩)
          · repeat (first | exact trivial | refine ⟨⟨_, rfl⟩, ?_⟩)
          · repeat (first | exact trivial | refine ⟨.inl ⟨_, rfl, (by first | rfl | ((exact congrArg (fun z => SV.v (Value.int .i64 z)) hw)))⟩, ?_⟩ | refine ⟨.inr ⟨Nat.le_of_ble_eq_true rfl, rfl, rfl, rfl, rfl⟩, ?_⟩)
      · have hge : xs.length ≤ k := by simpa using h
        have heq : xs = ys := by rw [List.take_of_length_le hge, List.take_of_length_le (by omega)] at he; exact he
        refine retw [] ⟨?_, rfl⟩ trivial rfl trivial (fun _ => rfl)
        simp [heq]

theorem chan_eq (m k : Chan) : m = k ↔ m.room = k.room ∧ m.closed = k.closed ∧ m.items = k.items ∧ m.senders = k.senders ∧ m.getters = k.getters := by
  cases m; cases k; simp only [Chan.mk.injEq]; constructor
  · rintro ⟨h1, h2, h3, h4, h5⟩; exact ⟨h1, h5, h2, h3, h4⟩
  · rintro ⟨h1, h2, h3, h4, h5⟩; exact ⟨h1, h3, h4, h5, h2⟩

set_option maxRecDepth 100000 in
theorem same_c (m k : Chan) (i s g i2 s2 g2 : Sl) (w : World) (h : At w [slo i cInt 1 m.items, slo s cLet 2 m.senders, slo g cInt 1 m.getters, slo i2 cInt 1 k.items, slo s2 cLet 2 k.senders, slo g2 cInt 1 k.getters]) (hb : m.small) (hb2 : k.small) :
    Calls Try.prog 28 #[chanV m i s g, chanV k i2 s2 g2] w (Ret w fun v L => v = .bool (decide (m = k)) ∧ L = []) := by
  obtain ⟨b1, b2, b3⟩ := hb
  obtain ⟨c1, c2, c3⟩ := hb2
  refine calls2 Try.func28 rfl tabOk w _ rfl _ rfl _ h ⟨rfl, rfl, rfl, rfl, rfl, rfl, rfl, rfl, rfl, rfl, rfl, rfl, trivial⟩ _ _ (by decide) ?_
  refine CaseB.mk (fun h1 => ?_) (fun h1 => ?_)
  · refine CaseB.mk (fun h2 => ?_) (fun h2 => ?_)
    · refine stop_call _ cl19 rfl rfl rfl rfl ⟨rfl, rfl⟩ (fun A w hW => eqInts_c i i2 m.items k.items w ⟨(by first | exact hW.rd 0 rfl | exact hW.rdOwn 0 rfl | exact hW.rd 1 rfl | exact hW.rdOwn 1 rfl | exact hW.rd 2 rfl | exact hW.rdOwn 2 rfl | exact hW.rd 3 rfl | exact hW.rdOwn 3 rfl | exact hW.rd 4 rfl | exact hW.rdOwn 4 rfl | exact hW.rd 5 rfl | exact hW.rdOwn 5 rfl | exact hW.rd 6 rfl | exact hW.rdOwn 6 rfl | exact hW.rd 7 rfl | exact hW.rdOwn 7 rfl | exact hW.rd 8 rfl | exact hW.rdOwn 8 rfl | exact hW.rd 9 rfl | exact hW.rdOwn 9 rfl | exact hW.rd 10 rfl | exact hW.rdOwn 10 rfl | exact hW.rd 11 rfl | exact hW.rdOwn 11 rfl | exact hW.rd 12 rfl | exact hW.rdOwn 12 rfl | exact hW.rd 13 rfl | exact hW.rdOwn 13 rfl | exact hW.rd 14 rfl | exact hW.rdOwn 14 rfl | exact hW.rd 15 rfl | exact hW.rdOwn 15 rfl | exact hW.rd 16 rfl | exact hW.rdOwn 16 rfl | exact hW.rd 17 rfl | exact hW.rdOwn 17 rfl | exact hW.rd 18 rfl | exact hW.rdOwn 18 rfl | exact hW.rd 19 rfl | exact hW.rdOwn 19 rfl | exact hW.rd 20 rfl | exact hW.rdOwn 20 rfl | exact hW.rd 21 rfl | exact hW.rdOwn 21 rfl | exact hW.rd 22 rfl | exact hW.rdOwn 22 rfl | exact hW.rd 23 rfl | exact hW.rdOwn 23 rfl), (by first | exact hW.rd 0 rfl | exact hW.rdOwn 0 rfl | exact hW.rd 1 rfl | exact hW.rdOwn 1 rfl | exact hW.rd 2 rfl | exact hW.rdOwn 2 rfl | exact hW.rd 3 rfl | exact hW.rdOwn 3 rfl | exact hW.rd 4 rfl | exact hW.rdOwn 4 rfl | exact hW.rd 5 rfl | exact hW.rdOwn 5 rfl | exact hW.rd 6 rfl | exact hW.rdOwn 6 rfl | exact hW.rd 7 rfl | exact hW.rdOwn 7 rfl | exact hW.rd 8 rfl | exact hW.rdOwn 8 rfl | exact hW.rd 9 rfl | exact hW.rdOwn 9 rfl | exact hW.rd 10 rfl | exact hW.rdOwn 10 rfl | exact hW.rd 11 rfl | exact hW.rdOwn 11 rfl | exact hW.rd 12 rfl | exact hW.rdOwn 12 rfl | exact hW.rd 13 rfl | exact hW.rdOwn 13 rfl | exact hW.rd 14 rfl | exact hW.rdOwn 14 rfl | exact hW.rd 15 rfl | exact hW.rdOwn 15 rfl | exact hW.rd 16 rfl | exact hW.rdOwn 16 rfl | exact hW.rd 17 rfl | exact hW.rdOwn 17 rfl | exact hW.rd 18 rfl | exact hW.rdOwn 18 rfl | exact hW.rd 19 rfl | exact hW.rdOwn 19 rfl | exact hW.rd 20 rfl | exact hW.rdOwn 20 rfl | exact hW.rd 21 rfl | exact hW.rdOwn 21 rfl | exact hW.rd 22 rfl | exact hW.rdOwn 22 rfl | exact hW.rd 23 rfl | exact hW.rdOwn 23 rfl), trivial⟩ b1 c1) ?_
      rintro v L ⟨rfl, rfl⟩
      refine CaseB.mk (fun h3 => ?_) (fun h3 => ?_)
      · refine stop_call _ cl46 rfl rfl rfl rfl ⟨rfl, rfl⟩ (fun A w hW => eqLets_c s s2 m.senders k.senders w ⟨(by first | exact hW.rd 0 rfl | exact hW.rdOwn 0 rfl | exact hW.rd 1 rfl | exact hW.rdOwn 1 rfl | exact hW.rd 2 rfl | exact hW.rdOwn 2 rfl | exact hW.rd 3 rfl | exact hW.rdOwn 3 rfl | exact hW.rd 4 rfl | exact hW.rdOwn 4 rfl | exact hW.rd 5 rfl | exact hW.rdOwn 5 rfl | exact hW.rd 6 rfl | exact hW.rdOwn 6 rfl | exact hW.rd 7 rfl | exact hW.rdOwn 7 rfl | exact hW.rd 8 rfl | exact hW.rdOwn 8 rfl | exact hW.rd 9 rfl | exact hW.rdOwn 9 rfl | exact hW.rd 10 rfl | exact hW.rdOwn 10 rfl | exact hW.rd 11 rfl | exact hW.rdOwn 11 rfl | exact hW.rd 12 rfl | exact hW.rdOwn 12 rfl | exact hW.rd 13 rfl | exact hW.rdOwn 13 rfl | exact hW.rd 14 rfl | exact hW.rdOwn 14 rfl | exact hW.rd 15 rfl | exact hW.rdOwn 15 rfl | exact hW.rd 16 rfl | exact hW.rdOwn 16 rfl | exact hW.rd 17 rfl | exact hW.rdOwn 17 rfl | exact hW.rd 18 rfl | exact hW.rdOwn 18 rfl | exact hW.rd 19 rfl | exact hW.rdOwn 19 rfl | exact hW.rd 20 rfl | exact hW.rdOwn 20 rfl | exact hW.rd 21 rfl | exact hW.rdOwn 21 rfl | exact hW.rd 22 rfl | exact hW.rdOwn 22 rfl | exact hW.rd 23 rfl | exact hW.rdOwn 23 rfl), (by first | exact hW.rd 0 rfl | exact hW.rdOwn 0 rfl | exact hW.rd 1 rfl | exact hW.rdOwn 1 rfl | exact hW.rd 2 rfl | exact hW.rdOwn 2 rfl | exact hW.rd 3 rfl | exact hW.rdOwn 3 rfl | exact hW.rd 4 rfl | exact hW.rdOwn 4 rfl | exact hW.rd 5 rfl | exact hW.rdOwn 5 rfl | exact hW.rd 6 rfl | exact hW.rdOwn 6 rfl | exact hW.rd 7 rfl | exact hW.rdOwn 7 rfl | exact hW.rd 8 rfl | exact hW.rdOwn 8 rfl | exact hW.rd 9 rfl | exact hW.rdOwn 9 rfl | exact hW.rd 10 rfl | exact hW.rdOwn 10 rfl | exact hW.rd 11 rfl | exact hW.rdOwn 11 rfl | exact hW.rd 12 rfl | exact hW.rdOwn 12 rfl | exact hW.rd 13 rfl | exact hW.rdOwn 13 rfl | exact hW.rd 14 rfl | exact hW.rdOwn 14 rfl | exact hW.rd 15 rfl | exact hW.rdOwn 15 rfl | exact hW.rd 16 rfl | exact hW.rdOwn 16 rfl | exact hW.rd 17 rfl | exact hW.rdOwn 17 rfl | exact hW.rd 18 rfl | exact hW.rdOwn 18 rfl | exact hW.rd 19 rfl | exact hW.rdOwn 19 rfl | exact hW.rd 20 rfl | exact hW.rdOwn 20 rfl | exact hW.rd 21 rfl | exact hW.rdOwn 21 rfl | exact hW.rd 22 rfl | exact hW.rdOwn 22 rfl | exact hW.rd 23 rfl | exact hW.rdOwn 23 rfl), trivial⟩ b2 c2) ?_
        rintro v L ⟨rfl, rfl⟩
        refine CaseB.mk (fun h4 => ?_) (fun h4 => ?_)
        · refine stop_call _ cl19 rfl rfl rfl rfl ⟨rfl, rfl⟩ (fun A w hW => eqInts_c g g2 m.getters k.getters w ⟨(by first | exact hW.rd 0 rfl | exact hW.rdOwn 0 rfl | exact hW.rd 1 rfl | exact hW.rdOwn 1 rfl | exact hW.rd 2 rfl | exact hW.rdOwn 2 rfl | exact hW.rd 3 rfl | exact hW.rdOwn 3 rfl | exact hW.rd 4 rfl | exact hW.rdOwn 4 rfl | exact hW.rd 5 rfl | exact hW.rdOwn 5 rfl | exact hW.rd 6 rfl | exact hW.rdOwn 6 rfl | exact hW.rd 7 rfl | exact hW.rdOwn 7 rfl | exact hW.rd 8 rfl | exact hW.rdOwn 8 rfl | exact hW.rd 9 rfl | exact hW.rdOwn 9 rfl | exact hW.rd 10 rfl | exact hW.rdOwn 10 rfl | exact hW.rd 11 rfl | exact hW.rdOwn 11 rfl | exact hW.rd 12 rfl | exact hW.rdOwn 12 rfl | exact hW.rd 13 rfl | exact hW.rdOwn 13 rfl | exact hW.rd 14 rfl | exact hW.rdOwn 14 rfl | exact hW.rd 15 rfl | exact hW.rdOwn 15 rfl | exact hW.rd 16 rfl | exact hW.rdOwn 16 rfl | exact hW.rd 17 rfl | exact hW.rdOwn 17 rfl | exact hW.rd 18 rfl | exact hW.rdOwn 18 rfl | exact hW.rd 19 rfl | exact hW.rdOwn 19 rfl | exact hW.rd 20 rfl | exact hW.rdOwn 20 rfl | exact hW.rd 21 rfl | exact hW.rdOwn 21 rfl | exact hW.rd 22 rfl | exact hW.rdOwn 22 rfl | exact hW.rd 23 rfl | exact hW.rdOwn 23 rfl), (by first | exact hW.rd 0 rfl | exact hW.rdOwn 0 rfl | exact hW.rd 1 rfl | exact hW.rdOwn 1 rfl | exact hW.rd 2 rfl | exact hW.rdOwn 2 rfl | exact hW.rd 3 rfl | exact hW.rdOwn 3 rfl | exact hW.rd 4 rfl | exact hW.rdOwn 4 rfl | exact hW.rd 5 rfl | exact hW.rdOwn 5 rfl | exact hW.rd 6 rfl | exact hW.rdOwn 6 rfl | exact hW.rd 7 rfl | exact hW.rdOwn 7 rfl | exact hW.rd 8 rfl | exact hW.rdOwn 8 rfl | exact hW.rd 9 rfl | exact hW.rdOwn 9 rfl | exact hW.rd 10 rfl | exact hW.rdOwn 10 rfl | exact hW.rd 11 rfl | exact hW.rdOwn 11 rfl | exact hW.rd 12 rfl | exact hW.rdOwn 12 rfl | exact hW.rd 13 rfl | exact hW.rdOwn 13 rfl | exact hW.rd 14 rfl | exact hW.rdOwn 14 rfl | exact hW.rd 15 rfl | exact hW.rdOwn 15 rfl | exact hW.rd 16 rfl | exact hW.rdOwn 16 rfl | exact hW.rd 17 rfl | exact hW.rdOwn 17 rfl | exact hW.rd 18 rfl | exact hW.rdOwn 18 rfl | exact hW.rd 19 rfl | exact hW.rdOwn 19 rfl | exact hW.rd 20 rfl | exact hW.rdOwn 20 rfl | exact hW.rd 21 rfl | exact hW.rdOwn 21 rfl | exact hW.rd 22 rfl | exact hW.rdOwn 22 rfl | exact hW.rd 23 rfl | exact hW.rdOwn 23 rfl), trivial⟩ b3 c3) ?_
          rintro v L ⟨rfl, rfl⟩
          refine retw [] ⟨?_, rfl⟩ trivial rfl trivial (fun _ => rfl)
          simp at h1 h2 h3 h4
          simp [chan_eq, h1, h2, h3, h4]
        · refine retw [] ⟨?_, rfl⟩ trivial rfl trivial (fun _ => rfl)
          simp at h4
          simp [chan_eq, h4]
      · refine retw [] ⟨?_, rfl⟩ trivial rfl trivial (fun _ => rfl)
        simp at h3
        simp [chan_eq, h3]
    · refine retw [] ⟨?_, rfl⟩ trivial rfl trivial (fun _ => rfl)
      simp at h2
      simp [chan_eq, h2]
  · refine retw [] ⟨?_, rfl⟩ trivial rfl trivial (fun _ => rfl)
    simp at h1
    simp [chan_eq, h1]

end Go.Proofs.Ytjkkoonennpceaa

namespace Go.Sx

open Go Go.RowKit

def gfoot (G : List Fct) (b : Nat) : Prop := ∃ f ∈ G, f.foot b

/-- Facts that a call leaves that may write the rows of G. -/
structure NewG (w w' : World) (G L : List Fct) : Prop where
  all : ∀ f ∈ L, f.P w' ∧ f.old = false ∧ ∀ b, f.foot b → (w.heap.size ≤ b ∨ gfoot G b) ∧ b < w'.heap.size
  dj : L.Pairwise Dj

/-- The same, and block g. -/
def RetPG (w : World) (g : Nat) (ty : TypeId) (sz : Nat) (G : List Fct) (R : Value → List Value → List Fct → Prop) : Ending → World → Prop := fun e w' =>
  ∃ v cs L, e = .returned v ∧ ExtX (fun b => b = g ∨ gfoot G b) w w' ∧ Blk w' g ty cs ∧ cs.length = sz ∧ NewG w w' G L ∧ (∀ f ∈ L, ∀ b, f.foot b → b ≠ g) ∧ R v cs L

def grantOk : List Fct → Prop
  | [] => True
  | f :: r => f.isOwn = true ∧ f.old = false ∧ grantOk r

theorem grantOk_all : ∀ {F : List Fct}, grantOk F → ∀ f ∈ F, f.isOwn = true ∧ f.old = false
  | [], _, f, hf => by cases hf
  | g :: r, h, f, hf => by
    rcases List.mem_cons.1 hf with rfl | hf
    · exact ⟨h.1, h.2.1⟩
    · exact grantOk_all h.2.2 f hf

/-- What a callee may take of the rows G that are handed over, and of the other facts. -/
structure AtG (w : World) (G Fo : List Fct) : Prop where
  at_ : At w (G ++ Fo)
  ok : grantOk G
  dj : (G ++ Fo).Pairwise Dj

abbrev mkEnvPG (P : Program) (w : World) (N g : Nat) (G : List Fct) : Env := ⟨P, w, fun b => b = g ∨ gfoot G b, N, 1, fun _ => g⟩

theorem WD.initPG (P : Program) (w : World) (N g : Nat) (ty : TypeId) (cs : List Value) {G Fo : List Fct} (hg : Blk w g ty cs) (h : AtG w G Fo) (hoff : ∀ f ∈ G ++ Fo, ∀ b, f.foot b → b ≠ g) (ho : initOk Fo) :
    WD (mkEnvPG P w N g G) (fun _ => g) 1 [(0, ty, cs.length)] (storeL 0 0 (cs.map .v) []) (G ++ Fo) w := by
  have hlt : g < w.heap.size := (Array.getElem?_eq_some_iff.1 hg).1
  refine ⟨?_, ?_, ?_, fun k hk => rfl, Nat.le_refl _, ExtX.refl _ _, fun f hf => ?_, h.dj⟩
  · intro k ty' sz hk
    simp only [List.mem_singleton, Prod.mk.injEq] at hk
    obtain ⟨rfl, rfl, rfl⟩ := hk
    exact ⟨Nat.zero_lt_one, hlt, .inr (.inl rfl), _, hg, by simp⟩
  · intro k ty1 sz1 k' ty2 sz2 h1 h2 _
    simp only [List.mem_singleton, Prod.mk.injEq] at h1 h2
    rw [h1.1, h2.1]
  · intro k o v hv
    rw [lookM_storeL] at hv
    split at hv
    · rename_i hc
      obtain ⟨rfl, _, hc3⟩ := hc
      rw [Nat.sub_zero, List.getElem?_map] at hv
      cases hx : cs[o]? with
      | none => rw [hx] at hv; simp at hv
      | some u =>
        rw [hx] at hv; simp at hv; subst hv
        refine ⟨⟨ty, cs.length, by simp⟩, ?_, trivial⟩
        rw [cell_of_row _ _ _ _ _ _ hg]
        show cs.toArray[o]? = some u
        simpa using hx
    · simp [lookM] at hv
  · obtain ⟨h1, h2⟩ := At_all h.at_ f hf
    refine ⟨h1, fun b hb => ⟨h2 b hb, fun k ty sz _ => (hoff f hf b hb).symm⟩, fun e b hb => .inr (.inr ?_)⟩
    rcases List.mem_append.1 hf with hf | hf
    · exact ⟨f, hf, hb⟩
    · rw [(initOk_all ho f hf).2] at e; cases e

section

variable {P : Program} {f : FuncId} {fn : Func} {x : Code} {R : Ending → World → Prop} {ti : Nat → TI}

end

theorem retPG {P : Program} {w : World} {N g ty sz : Nat} {n : Nat} {B : List (Nat × TypeId × Nat)} {M : List ((Nat × Nat) × SV)} {F G : List Fct} {R : Value → List Value → List Fct → Prop} {l : List SV} (ix : List Nat) {L : List Fct} {v : Value} {cs : List Value} (hR : R v cs L) (hB : lookBT B 0 = some (ty, sz)) (hM : loadN M 0 0 sz = some cs)
    (hF : FW F ix L) (hix : nodupB ix = true) (ho : freshOk L) (hv : ∀ A, resV A l = v) :
    RetW (∀ A w', WD (mkEnvPG P w N g G) A n B M F w' → RetPG w g ty sz G R (.returned (resV A l)) w') := by
  refine ⟨fun A w' h => ?_⟩
  rw [hv A]
  have hs := h.pick ix hF hix
  obtain ⟨hb, hl⟩ := h.blk (lookBT_mem hB) hM
  have ha : A 0 = g := h.a0 0 (by show 0 < 1; omega)
  rw [ha] at hb
  have hne : ∀ f ∈ L, ∀ b, f.foot b → b ≠ g := fun f hf b hb e => ((hs.fct f hf).2.1 b hb).2 0 ty sz (lookBT_mem hB) (ha.trans e.symm)
  refine ⟨v, cs, L, rfl, h.ext, hb, hl, ⟨fun f hf => ?_, hs.dj⟩, hne, hR⟩
  obtain ⟨h1, h2, h3⟩ := hs.fct f hf
  refine ⟨h1, freshOk_all ho f hf, fun b hb => ⟨?_, (h2 b hb).1⟩⟩
  rcases h3 (freshOk_all ho f hf) b hb with h4 | h4 | h4
  · exact .inl h4
  · exact absurd h4 (hne f hf b hb)
  · exact .inr h4

/-- The facts but for those with these numbers. -/
def memB : List Nat → Nat → Bool
  | [], _ => false
  | x :: r, k => match Nat.beq x k with
    | true => true
    | false => memB r k

theorem memB_iff : ∀ {l : List Nat} {k : Nat}, memB l k = true ↔ k ∈ l
  | [], k => by simp [memB]
  | x :: r, k => by
    simp only [memB, List.mem_cons]
    by_cases h : x = k
    · subst h; rw [Nat.beq_refl]; simp
    · have h' : ¬ k = x := fun e => h e.symm
      rw [show Nat.beq x k = false from by rw [← Bool.not_eq_true]; intro e; exact h (Nat.eq_of_beq_eq_true e)]
      simp [memB_iff, h']

def dropAt (ix : List Nat) : Nat → List Fct → List Fct
  | _, [] => []
  | k, f :: r => match memB ix k with
    | true => dropAt ix (k + 1) r
    | false => f :: dropAt ix (k + 1) r

theorem dropAt_sub (ix : List Nat) : ∀ (F : List Fct) (k : Nat), (dropAt ix k F).Sublist F
  | [], _ => List.Sublist.refl _
  | f :: r, k => by
    simp only [dropAt]
    split
    · exact (dropAt_sub ix r (k + 1)).cons _
    · exact (dropAt_sub ix r (k + 1)).cons_cons _

theorem dropAt_at (ix : List Nat) : ∀ (F : List Fct) (k : Nat), ∀ f ∈ dropAt ix k F, ∃ j, F[j]? = some f ∧ ¬ (k + j) ∈ ix
  | [], _, f, hf => by cases hf
  | g :: r, k, f, hf => by
    simp only [dropAt] at hf
    split at hf
    · obtain ⟨j, h1, h2⟩ := dropAt_at ix r (k + 1) f hf
      exact ⟨j + 1, by simpa using h1, by rw [show k + (j + 1) = k + 1 + j by omega]; exact h2⟩
    · rename_i hm
      rcases List.mem_cons.1 hf with rfl | hf
      · exact ⟨0, rfl, fun h => by rw [Nat.add_zero, ← memB_iff] at h; rw [h] at hm; cases hm⟩
      · obtain ⟨j, h1, h2⟩ := dropAt_at ix r (k + 1) f hf
        exact ⟨j + 1, by simpa using h1, by rw [show k + (j + 1) = k + 1 + j by omega]; exact h2⟩

theorem FK_at {F : List Fct} : ∀ {ix : List Nat} {G : List Fct}, FK F ix G → ∀ f ∈ G, ∃ i ∈ ix, F[i]? = some f
  | [], [], _, f, hf => by cases hf
  | [], _ :: _, h, _, _ => h.elim
  | _ :: _, [], h, _, _ => h.elim
  | i :: ix, g :: r, h, f, hf => by
    rcases List.mem_cons.1 hf with rfl | hf
    · exact ⟨i, by simp, h.1⟩
    · obtain ⟨j, h1, h2⟩ := FK_at h.2 f hf
      exact ⟨j, by simp [h1], h2⟩

/-- A fact that a callee may take: the same or a slice's reading. -/
inductive Der : Fct → Fct → Prop
  | sl {o : Bool} {i : Sl} {sz n : Nat} {cs : List Value} : Der (fSl o i sz cs n) (fSl true i sz cs n)
  | own {o : Bool} {i : Sl} {e sz n : Nat} {cs : List Value} : Der (fOwn o i e sz cs n) (fSl true i sz cs n)
  | gen {g f : Fct} (h1 : ∀ w, g.P w → f.P w) (h2 : ∀ b, f.foot b → g.foot b) (h3 : f.isOwn = false) (h4 : f.old = true) : Der g f

theorem Der.out {g f : Fct} (h : Der g f) : (∀ w, g.P w → f.P w) ∧ (∀ b, f.foot b → g.foot b) ∧ f.isOwn = false ∧ f.old = true := by
  cases h with
  | sl => exact ⟨fun _ h => h, fun _ h => h, rfl, rfl⟩
  | own => exact ⟨fun _ h => own_rd h, fun _ h => h.2, rfl, rfl⟩
  | gen h1 h2 h3 h4 => exact ⟨h1, h2, h3, h4⟩

def FD (F : List Fct) : List Nat → List Fct → Prop
  | [], [] => True
  | j :: jx, f :: r => (∃ g, F[j]? = some g ∧ Der g f) ∧ FD F jx r
  | _, _ => False

theorem FD_at {F : List Fct} : ∀ {ix : List Nat} {G : List Fct}, FD F ix G → ∀ f ∈ G, ∃ i ∈ ix, ∃ g, F[i]? = some g ∧ Der g f
  | [], [], _, f, hf => by cases hf
  | [], _ :: _, h, _, _ => h.elim
  | _ :: _, [], h, _, _ => h.elim
  | i :: ix, g :: r, h, f, hf => by
    rcases List.mem_cons.1 hf with rfl | hf
    · obtain ⟨g, h1, h2⟩ := h.1
      exact ⟨i, by simp, g, h1, h2⟩
    · obtain ⟨j, h1, h2⟩ := FD_at h.2 f hf
      exact ⟨j, by simp [h1], h2⟩

section

variable {E : Env} {ti : Nat → TI} {A : Nat → Nat} {T : List (Nat × SV)} {n c : Nat} {B : List (Nat × TypeId × Nat)} {M : List ((Nat × Nat) × SV)} {F Fs : List Fct} {o : Oper} {next : St → Prop} {a : Act} {w w' : World}

def noMeet (ix jx : List Nat) : Bool := match jx with
  | [] => true
  | j :: r => match memB ix j with
    | true => false
    | false => noMeet ix r

theorem noMeet_ok : ∀ {ix jx : List Nat}, noMeet ix jx = true → ∀ j ∈ jx, ¬ j ∈ ix
  | _, [], _, j, hj => by cases hj
  | ix, k :: r, h, j, hj => by
    simp only [noMeet] at h
    split at h
    · cases h
    · rename_i hm
      rcases List.mem_cons.1 hj with rfl | hj
      · intro e; rw [memB_iff.2 e] at hm; cases hm
      · exact noMeet_ok h j hj

/-- What a caller shows of the rows that it hands over (their numbers: ix) and of the other facts (jx). -/
theorem WD.atG (h : WD E A n B M F w) (ix : List Nat) {G : List Fct} (hG : FK F ix G) (hix : nodupB ix = true) (hok : grantOk G) (jx : List Nat) {Fo : List Fct} (hFo : FD F jx Fo) (hm : noMeet ix jx = true) : AtG w G Fo := by
  have hg : ∀ f ∈ G, f.P w ∧ ∀ b, f.foot b → b < w.heap.size := fun f hf => by
    obtain ⟨i, _, hi⟩ := FK_at hG f hf
    exact h.nth i hi
  have hoo : ∀ f ∈ Fo, (f.P w ∧ ∀ b, f.foot b → b < w.heap.size) ∧ f.isOwn = false := fun f hf => by
    obtain ⟨i, _, g, hi, hd⟩ := FD_at hFo f hf
    obtain ⟨d1, d2, d3, _⟩ := hd.out
    exact ⟨⟨d1 w (h.nth i hi).1, fun b hb => (h.nth i hi).2 b (d2 b hb)⟩, d3⟩
  have hat : ∀ L : List Fct, (∀ f ∈ L, f.P w ∧ ∀ b, f.foot b → b < w.heap.size) → At w L := fun L => by
    induction L with
    | nil => intro _; trivial
    | cons f r ih => intro hl; exact ⟨hl f (by simp), ih fun f hf => hl f (by simp [hf])⟩
  refine ⟨hat _ fun f hf => ?_, hok, ?_⟩
  · rcases List.mem_append.1 hf with hf | hf
    · exact hg f hf
    · exact (hoo f hf).1
  · rw [List.pairwise_append]
    refine ⟨(h.pick ix (FK.fw hG) hix).dj, ?_, fun f hf g hg => ?_⟩
    · rw [List.pairwise_iff_getElem]
      intro p q hp hq _ hor
      rw [(hoo _ (List.getElem_mem hp)).2, (hoo _ (List.getElem_mem hq)).2] at hor
      simp at hor
    · obtain ⟨i, hi1, hi2⟩ := FK_at hG f hf
      obtain ⟨j, hj1, g0, hj2, hd⟩ := FD_at hFo g hg
      have hne : i ≠ j := fun e => noMeet_ok hm j hj1 (by rw [← e]; exact hi1)
      have hdj := pairwise_pick h.dj hne hi2 hj2
      intro _ b hb hb'
      exact hdj (.inl (grantOk_all hok f hf).1) b hb (hd.out.2.1 b hb')

theorem WD.atG_off (h : WD E A n B M F w) {k ty sz : Nat} (hB : lookBT B k = some (ty, sz)) {ga : Nat} (hga : ga = A k) {ix : List Nat} {G : List Fct} (hG : FK F ix G) {jx : List Nat} {Fo : List Fct} (hFo : FD F jx Fo) : ∀ f ∈ G ++ Fo, ∀ b, f.foot b → b ≠ ga := by
  subst hga
  intro f hf b hb e
  rcases List.mem_append.1 hf with hf | hf
  · obtain ⟨i, _, hi⟩ := FK_at hG f hf
    exact ((h.fct _ (List.mem_of_getElem? hi)).2.1 b hb).2 k ty sz (lookBT_mem hB) e.symm
  · obtain ⟨i, _, g, hi, hd⟩ := FD_at hFo f hf
    exact ((h.fct _ (List.mem_of_getElem? hi)).2.1 b (hd.out.2.1 b hb)).2 k ty sz (lookBT_mem hB) e.symm

/-- A field of an element that will be written. -/
theorem stop_fldW {t : TypeId} {x : Operand} {k : Nat} {g off o2 sz2 d : Nat} {ag : Bool} {agg : Bool} {size : Nat} {zero : List Value} {fs : List (Nat × Nat × Bool)} {el : Option TypeId} {ik : Option IntKind} {kk bytes : Nat}
    (hti : ∀ t, TIok E.P t (ti t)) (hop : o.op = .fieldAddr t x k) (hx : evalO T x = some (.v (.pointer (some ⟨g, off, none⟩)))) (ht : ti t = .mk agg size zero fs el ik kk bytes) (hk : nth fs k = some (o2, sz2 + 1, ag)) (hd : Dst E o d)
    (hnext : next (.mk ((d, .v (.pointer (some ⟨g, off + o2, none⟩))) :: T) n c B M F)) : OpW (opStop E o next T n c B M F) := by
  refine ⟨fun A a w hW hT => ?_⟩
  have htt := hti t
  rw [ht] at htt
  obtain ⟨ii, dd, z, e1, e2, e3, e4, e5, e6, e7, e8, e9, e10, e11⟩ := tiSum_parts htt
  obtain ⟨fields, f, fi, fd, rfl, hfi, rfl, g1, g2, g3, g4⟩ := fs_field e7 hk
  have hx' : a.eval x = .pointer (some ⟨g, off, none⟩) := (evalO_sound hT hx).1
  have hr : (execOp a.eval o).run E.P w = .ok (.value (.pointer (some ⟨g, off + f.offset, none⟩))) w := by
    have hadd : (⟨g, off, none⟩ : Addr).add f.offset = ⟨g, off + f.offset, none⟩ := ptr_add (fun _ => g) 0 off f.offset
    simp [execOp, hop, hx', Instr.fieldAt, underlying, e2, hfi, Instr.sureAddr, fieldPlace, run_sizeOf g1, g2, hadd]
  refine upon_of_value hr ?_
  rw [hd.1]
  exact ⟨_, ⟨_, hW, hT.put (v := .v (.pointer (some ⟨g, off + f.offset, none⟩))) hd.lt trivial⟩, hnext⟩

/-- make([]T, n). -/
theorem stop_make {α : Type} {enc : α → List Value} {sz : Nat} (he : Enc enc sz) (z0 : α) {t e : TypeId} {x : Operand} {kd : IntKind} {m : Int} {d : Nat} {agg : Bool} {size : Nat} {zero : List Value} {fs : List (Nat × Nat × Bool)} {ik : Option IntKind} {kk bytes : Nat} {agg2 : Bool} {zero2 : List Value} {fs2 : List (Nat × Nat × Bool)} {el2 : Option TypeId} {ik2 : Option IntKind} {kk2 bytes2 : Nat}
    (hti : ∀ t, TIok E.P t (ti t)) (hop : o.op = .makeSlice t x x) (hx : evalO T x = some (.v (.int kd m)))
    (ht : ti t = .mk agg size zero fs (some e) ik kk bytes) (hte : ti e = .mk agg2 sz zero2 fs2 el2 ik2 kk2 bytes2) (hz : zero2 = enc z0) (h0 : 0 < sz) (hd : Dst E o d)
    (q : Nat) (hq : m = (q : Int)) (hb : bytes2 * q ≤ 281474976710656) (hm : q ≤ maxLen)
    (hnext : ∀ y : Sl, next (.mk ((d, .v (y.val q)) :: T) n (c + 1) B M (own y e enc sz (List.replicate q z0) :: F))) :
    OpW (opStop E o next T n c B M F) := by
  refine ⟨fun A a w hW hT => ?_⟩
  have htt := hti t
  rw [ht] at htt
  obtain ⟨ii, dd, z, e1, e2, e3, e4, e5, e6, e7, e8, e9, e10, e11⟩ := tiSum_parts htt
  have htt2 := hti e
  rw [hte] at htt2
  obtain ⟨ii2, dd2, z2, k1, k2, k3, k4, k5, k6, k7, k8, k9, k10, k11⟩ := tiSum_parts htt2
  have hdd := el_slice e8
  subst hq
  obtain ⟨w', hr, ho, hg⟩ := run_make_full (P := E.P) w 0 t e ii2 z2 sz (by rw [e2, hdd]) k1 k5 k4 kd kd q (by rw [k11]; exact hb) hm (Nat.zero_le _)
  have hx' : a.eval x = .int kd (q : Int) := (evalO_sound hT hx).1
  have hrr : (execOp a.eval o).run E.P w = .ok (.value (.slice (some ⟨w.heap.size, 0, none⟩) q q)) w' := by
    simp only [execOp, hop, hx', hr, Sem.run_bind, Sem.run_pure, Result.andThen_ok]
  have hzc : z2.cells.toList = enc z0 := by rw [k6, hz]
  have hcells : (madeCells z2.cells (q * sz)).toList = cells enc (List.replicate q z0) := by
    have hzs : z2.cells.size = sz := by have := congrArg List.length hzc; rw [he.len] at this; simpa using this
    apply List.ext_getElem?
    intro j
    by_cases hj : j < q * sz
    · have hk : j / sz < q := Nat.div_lt_of_lt_mul (by rwa [Nat.mul_comm] at hj)
      have hrm : j % sz < sz := Nat.mod_lt _ h0
      have hr' : j % sz < (enc ((List.replicate q z0)[j / sz]'(by simpa using hk))).length := by rw [he.len]; exact hrm
      have h2 := cells_at he (xs := List.replicate q z0) (by simpa using hk) (List.getElem?_eq_getElem hr')
      rw [Nat.div_add_mod'] at h2
      rw [h2]
      simp only [madeCells, Array.toList_map, Array.toList_range, List.getElem?_map, List.getElem?_range hj, Option.map_some, List.getElem_replicate]
      congr 1
      rw [hzs, getElem!_pos z2.cells (j % sz) (by rw [hzs]; exact hrm)]
      have : z2.cells[j % sz]'(by rw [hzs]; exact hrm) = z2.cells.toList[j % sz]'(by simpa [hzs] using hrm) := by simp
      rw [this]
      simp only [hzc]
    · rw [List.getElem?_eq_none (by simp [madeCells]; omega), List.getElem?_eq_none (by rw [cells_length he]; simp; omega)]
  rw [hcells] at ho
  refine upon_of_value hrr ?_
  rw [hd.1]
  have hnew : New w w' [own (⟨some ⟨w.heap.size, 0, none⟩, q⟩ : Sl) e enc sz (List.replicate q z0)] := by
    refine ⟨fun f hf => ?_, List.pairwise_singleton _ _⟩
    simp only [List.mem_singleton] at hf
    subst hf
    have ho' : w'.ownsRow 0 e sz ((⟨some ⟨w.heap.size, 0, none⟩, q⟩ : Sl).val (List.replicate q z0).length) (List.replicate q z0).length (cells enc (List.replicate q z0)) := by
      rw [List.length_replicate]; exact ho
    refine ⟨ho', rfl, ?_⟩
    rintro b ⟨ad, q1, rfl⟩
    simp only [Option.some.injEq] at q1
    subst q1
    have hlt := (ho.lt w.heap.size (by simp [Value.ownBlock])).2
    exact ⟨Nat.le_refl _, hlt⟩
  have hex : Ext w w' := ExtX.grown hg (fun g hg => by cases hg)
  exact ⟨_, ⟨_, hW.learn hex hnew, (hT.step w').put (v := .v ((⟨some ⟨w.heap.size, 0, none⟩, q⟩ : Sl).val q)) hd.lt trivial⟩, hnext _⟩

end

end Go.Sx

namespace Go.Sx

open Go Go.RowKit

theorem blk_st (g : Nat) (ty : TypeId) (cs : List Value) (w w' : World) (hb : ∀ b, b = g → w'.heap[b]? = w.heap[b]?) : Blk w g ty cs → Blk w' g ty cs := fun h => by
  unfold Blk at *
  rw [hb g rfl]; exact h

/-- Block g is the variable of type ty with these cells: nobody writes it meanwhile. -/
abbrev fVar (g : Nat) (ty : TypeId) (cs : List Value) : Fct := .other true false (fun b => b = g) (fun w => Blk w g ty cs) (blk_st g ty cs)

section

variable {E : Env} {ti : Nat → TI} {A : Nat → Nat} {T : List (Nat × SV)} {n c : Nat} {B : List (Nat × TypeId × Nat)} {M Ms : List ((Nat × Nat) × SV)} {F Fs : List Fct} {o : Oper} {next : St → Prop} {a : Act} {w w' : World}

theorem WD.var (h : WD E A n B M F w) {k ty sz : Nat} {cs : List Value} (hB : lookBT B k = some (ty, sz)) (hM : loadN M k 0 sz = some cs) : (fVar (A k) ty cs).P w ∧ ∀ b, (fVar (A k) ty cs).foot b → b < w.heap.size :=
  ⟨(h.blk (lookBT_mem hB) hM).1, fun b hb => by
    obtain rfl : b = A k := hb
    exact (h.key k ty sz (lookBT_mem hB)).2.1⟩

/-- A call of a function value that came in. -/
theorem stop_callV (R : Value → List Fct → Prop) {k : Call} {fo : Operand} {g : FuncId} {cap : Array Value} {l : List SV} {d : Nat} (hc : callable E.P g = true)
    (hop : o.op = .call k) (hk : k.callee = .value fo) (hf : evalO T fo = some (.v (.func (.func g) #[] cap))) (ha : evalOs T k.args.toList = some l) (hd : Dst E o d)
    (hcall : ∀ A w, WD E A n B M F w → Calls E.P g ((l.map (SV.den A)) ++ cap.toList).toArray w (Ret w R))
    (hnext : ∀ v L, R v L → next (.mk ((d, .v v) :: T) n (c + 1) B M (L ++ F))) :
    OpW (opStop E o next T n c B M F) := by
  refine ⟨fun A a w hW hT => ?_⟩
  have hargs : (k.args.map a.eval).toList = l.map (SV.den A) := by rw [Array.toList_map]; exact evalOs_sound hT ha
  have hfv := (evalO_sound hT hf).1
  have hr : (execOp a.eval o).run E.P w = .ok (.enter g ((l.map (SV.den A)) ++ cap.toList).toArray) w := by
    have hcat : (k.args.map a.eval) ++ cap = ((l.map (SV.den A)) ++ cap.toList).toArray := by
      apply Array.ext'; rw [Array.toList_append, hargs]
    simp only [execOp, hop, resolve, hk, Sem.run_bind, hfv, SV.den, Deferred.ofValue, Sem.run_pure, Result.andThen_ok, Array.empty_append, invoke, hcat, run_callFunc hc]
  unfold Oper.wp
  rw [hr, Oper.upon_enter]
  refine (hcall A w hW).mono ?_
  rintro e w' ⟨v, L, rfl, he, hL, hR⟩
  refine ⟨_, ⟨_, hW.learn he hL, ?_⟩, hnext v L hR⟩
  rw [hd.1]
  exact (hT.step w').put (v := .v v) hd.lt trivial

/-- A load of a variable that a fact knows. -/
theorem stop_loadV (k1 : Nat) {t ty : TypeId} {x : Operand} {g d : Nat} {cs : List Value} {v : Value} {size : Nat} {zero : List Value} {fs : List (Nat × Nat × Bool)} {el : Option TypeId} {ik : Option IntKind} {kk bytes : Nat}
    (hti : ∀ t, TIok E.P t (ti t)) (hop : o.op = .load t x) (hx : evalO T x = some (.v (.pointer (some ⟨g, 0, none⟩)))) (ht : ti t = .mk false size zero fs el ik kk bytes) (hF : F[k1]? = some (fVar g ty cs)) (hv : cs[0]? = some v) (hd : Dst E o d)
    (hnext : next (.mk ((d, .v v) :: T) n c B M F)) : OpW (opStop E o next T n c B M F) := by
  refine ⟨fun A a w hW hT => ?_⟩
  have htt := hti t
  rw [ht] at htt
  obtain ⟨ii, dd, z, e1, e2, e3, e4, e5, e6, e7, e8, e9, e10, e11⟩ := tiSum_parts htt
  have hx' : a.eval x = .pointer (some ⟨g, 0, none⟩) := (evalO_sound hT hx).1
  have hb : Blk w g ty cs := (hW.nth k1 hF).1
  have hc : w.cell? ⟨g, 0, none⟩ = some v := by
    rw [cell_of_row _ _ _ _ _ _ hb]
    show cs.toArray[0]? = some v
    simpa using hv
  have hr : (execOp a.eval o).run E.P w = .ok (.value v) w := by
    simp [execOp, hop, hx', Instr.loadAt, Instr.sureAddr, run_loadVar_one (w := w) e2 e3 _ _ hc]
  refine upon_of_value hr ?_
  rw [hd.1]
  exact ⟨_, ⟨_, hW, hT.put (v := .v v) hd.lt trivial⟩, hnext⟩

end

end Go.Sx

namespace Go.Sx

open Go Go.RowKit

section

variable {E : Env} {ti : Nat → TI} {A : Nat → Nat} {T : List (Nat × SV)} {n c : Nat} {B : List (Nat × TypeId × Nat)} {M Ms : List ((Nat × Nat) × SV)} {F Fs : List Fct} {o : Oper} {next : St → Prop} {a : Act} {w w' : World}

theorem WD.callPG (h : WD E A n B M F w) {k ty sz : Nat} (hk : (k, ty, sz) ∈ B) {cs : List Value} {ix : List Nat} {G : List Fct} (hG : FK F ix G) (hok : grantOk G) (hex : ExtX (fun b => b = A k ∨ gfoot G b) w w') (hnew : Blk w' (A k) ty cs) (hl : cs.length = sz) {L : List Fct} (hL : NewG w w' G L) :
    WD E A n B (storeL k 0 (cs.map .v) M) (L ++ dropAt ix 0 F) w' := by
  obtain ⟨hk1, hk2, hk3, cs0, hk4, hk5⟩ := h.key k ty sz hk
  have hgf : ∀ b, gfoot G b → b < w.heap.size ∧ (∀ k ty sz, (k, ty, sz) ∈ B → A k ≠ b) ∧ (E.w0.heap.size ≤ b ∨ E.X b) ∧ ∀ f ∈ dropAt ix 0 F, ¬ f.foot b := by
    rintro b ⟨g, hg, hb⟩
    obtain ⟨i, hi1, hi2⟩ := FK_at hG g hg
    obtain ⟨h1, h2, h3⟩ := h.fct _ (List.mem_of_getElem? hi2)
    obtain ⟨o1, o2⟩ := grantOk_all hok g hg
    refine ⟨(h2 b hb).1, (h2 b hb).2, h3 o2 b hb, fun f hf hfb => ?_⟩
    obtain ⟨j, hj1, hj2⟩ := dropAt_at ix F 0 f hf
    rw [Nat.zero_add] at hj2
    exact pairwise_pick h.dj (fun e => hj2 (by rw [← e]; exact hi1)) hi2 hj1 (.inl o1) b hb hfb
  have hsub := h.sub (dropAt_sub ix F 0)
  refine ⟨?_, h.inj, ?_, h.a0, h.n0, h.ext.trans' hex (fun i hi e => ?_), ?_, ?_⟩
  · intro k' ty' sz' hk'
    obtain ⟨g1, g2, g3, cs2, g4, g5⟩ := h.key k' ty' sz' hk'
    refine ⟨g1, Nat.lt_of_lt_of_le g2 hex.size, g3, ?_⟩
    by_cases e : A k' = A k
    · rw [e, hk4] at g4
      simp only [Option.some.injEq, Obj.cells.injEq] at g4
      obtain ⟨rfl, rfl, _⟩ := g4
      exact ⟨cs.toArray, by rw [e]; exact hnew, by simp; omega⟩
    · exact ⟨cs2, by rw [hex.block _ g2 (fun h' => h'.elim e (fun h' => (hgf _ h').2.1 k' ty' sz' hk' rfl))]; exact g4, g5⟩
  · intro k' o' v hv
    rw [lookM_storeL] at hv
    split at hv
    · rename_i hc
      obtain ⟨rfl, _, hc3⟩ := hc
      rw [Nat.sub_zero, List.getElem?_map] at hv
      cases hx : cs[o']? with
      | none => rw [hx] at hv; simp at hv
      | some u =>
        rw [hx] at hv; simp at hv; subst hv
        refine ⟨⟨ty, sz, hk⟩, ?_, trivial⟩
        rw [cell_of_row _ _ _ _ _ _ hnew]
        show cs.toArray[o']? = some u
        simpa using hx
    · rename_i hc
      obtain ⟨⟨ty', sz', hk'⟩, g2, g3⟩ := h.mem k' o' v hv
      refine ⟨⟨ty', sz', hk'⟩, ?_, g3⟩
      by_cases e : A k' = A k
      · have ek : k' = k := h.inj _ _ _ _ _ _ hk' hk e
        subst ek
        rw [cell_of_row _ _ _ _ _ _ hk4] at g2
        have : o' < cs0.size := (Array.getElem?_eq_some_iff.1 g2).1
        exact absurd ⟨rfl, Nat.zero_le _, by simp; omega⟩ hc
      · rw [← g2]
        exact World.cell?_of_block (hex.block _ (h.key _ _ _ hk').2.1 (fun h' => h'.elim e (fun h' => (hgf _ h').2.1 _ _ _ hk' rfl)))
  · rcases e with e | e
    · subst e
      rcases hk3 with hk3 | hk3
      · omega
      · exact hk3
    · exact (hgf i e).2.2.1.resolve_left (by omega)
  · intro f hf
    rcases List.mem_append.1 hf with hf | hf
    · obtain ⟨h1, h2, h3⟩ := hL.all f hf
      refine ⟨h1, fun b hb => ⟨(h3 b hb).2, fun k ty sz hk e => ?_⟩, fun _ b hb => ?_⟩
      · rcases (h3 b hb).1 with h4 | h4
        · have := (h.key k ty sz hk).2.1
          omega
        · exact (hgf b h4).2.1 k ty sz hk e
      · rcases (h3 b hb).1 with h4 | h4
        · exact .inl (Nat.le_trans h.ext.size h4)
        · exact (hgf b h4).2.2.1
    · obtain ⟨g1, g2, g3⟩ := hsub.fct f hf
      exact ⟨Fct.keep g1 (fun b hb => (g2 b hb).1) hex (fun b hb e => e.elim (fun e => (g2 b hb).2 k ty sz hk e.symm) (fun e => (hgf b e).2.2.2 f hf hb)), fun b hb => ⟨Nat.lt_of_lt_of_le (g2 b hb).1 hex.size, (g2 b hb).2⟩, g3⟩
  · rw [List.pairwise_append]
    refine ⟨hL.dj, hsub.dj, fun f hf g hg _ b hb hb' => ?_⟩
    rcases ((hL.all f hf).2.2 b hb).1 with h4 | h4
    · have := ((hsub.fct g hg).2.1 b hb').1
      omega
    · exact (hgf b h4).2.2.2 g hg hb'

end

end Go.Sx

namespace Go.Sx

open Go Go.RowKit

theorem bundle_st (G : List Fct) (w w' : World) (hb : ∀ b, (∃ f ∈ G, f.foot b) → w'.heap[b]? = w.heap[b]?) (h : ∀ f ∈ G, f.P w) : ∀ f ∈ G, f.P w' :=
  fun f hf => f.st w w' (fun b hfb => hb b ⟨f, hf, hfb⟩) (h f hf)

/-- All of G hold; nobody writes what they read. -/
abbrev fB (old : Bool) (G : List Fct) : Fct := .other old false (fun b => ∃ f ∈ G, f.foot b) (fun w => ∀ f ∈ G, f.P w) (bundle_st G)

section

variable {E : Env} {A : Nat → Nat} {T : List (Nat × SV)} {n c : Nat} {B : List (Nat × TypeId × Nat)} {M Ms : List ((Nat × Nat) × SV)} {F Fs : List Fct} {o : Oper} {next : St → Prop} {w : World}

/-- What goes into a bundle: a fresh row's reading, a fresh reading, a fresh bundle. -/
inductive DerB : Fct → List Fct → Prop
  | own {i : Sl} {e sz n : Nat} {cs : List Value} : DerB (fOwn false i e sz cs n) [fSl false i sz cs n]
  | sl {i : Sl} {sz n : Nat} {cs : List Value} : DerB (fSl false i sz cs n) [fSl false i sz cs n]
  | b {G : List Fct} : DerB (fB false G) G

theorem DerB.out {f : Fct} {G : List Fct} (h : DerB f G) : f.old = false ∧ (∀ w, f.P w → ∀ g ∈ G, g.P w) ∧ ∀ g ∈ G, ∀ b, g.foot b → f.foot b := by
  cases h with
  | own => exact ⟨rfl, fun w h g hg => by obtain rfl := List.mem_singleton.1 hg; exact own_rd h, fun g hg b hb => by obtain rfl := List.mem_singleton.1 hg; exact hb.2⟩
  | sl => exact ⟨rfl, fun w h g hg => by obtain rfl := List.mem_singleton.1 hg; exact h, fun g hg b hb => by obtain rfl := List.mem_singleton.1 hg; exact hb⟩
  | b => exact ⟨rfl, fun w h g hg => h g hg, fun g hg b hb => ⟨g, hg, hb⟩⟩

/-- A reading as a callee takes it. -/
def Fct.aged : Fct → Fct
  | .sl _ i sz cs n => .sl true i sz cs n
  | .own _ i _ sz cs n => .sl true i sz cs n
  | .other _ _ foot P st => .other true false foot P st

theorem Fct.aged_out : ∀ (f : Fct), (∀ w, f.P w → f.aged.P w) ∧ ∀ b, f.aged.foot b → f.foot b
  | .sl .. => ⟨fun _ h => h, fun _ h => h⟩
  | .own .. => ⟨fun _ h => own_rd h, fun _ h => h.2⟩
  | .other .. => ⟨fun _ h => h, fun _ h => h⟩

end

end Go.Sx
