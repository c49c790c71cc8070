/- FnExactFormatState: texts that its proof stands on, part 2. -/
import Derived.OrdersHeld
import Derived.Laws.StructEq
import Derived.Laws.OwnMore
import Derived.Test.YtchkcjeeknfchaaGreatDoorQExactFormatStatea
namespace Go.Sx

open Go Go.RowKit

structure BothW (p q : Prop) : Prop where
  l : p
  r : q

inductive GSt where
  | go
  | no
  | unk (t : Nat) (b : Bool)
  | bad

def guardSt (ops : List Oper) (T : List (Nat × SV)) : Option (Nat × Bool) → GSt
  | none => .go
  | some (j, want) => match gval ops T j with
    | some (_, .lit b) => (match b, want with
      | true, true => .go
      | false, false => .go
      | true, false => .no
      | false, true => .no)
    | some (t, .v (.bool b)) => .unk t b
    | some (_, .v (.tuple _)) => .no
    | _ => .bad

def isIdx : Op → Bool
  | .indexAddr .. => true
  | .binOp .. => true
  | .slice .. => true
  | _ => false

inductive Pick where
  | pure (i : Nat) (d : Option Nat) (s : SV)
  | skip (i : Nat) (d : Option Nat)
  | split (t : Nat) (b : Bool)
  | idx (i : Nat) (o : Oper)
  | none

def pickFrom (ti : Nat → TI) (ops : List Oper) (T : List (Nat × SV)) (c : Nat) (Ms : List ((Nat × Nat) × SV)) : List Nat → Pick
  | [] => .none
  | i :: r => match nth ops i with
    | some o => (match guardSt ops T o.guard with
      | .go => (match pureV ti T c Ms o.op with
        | some s => .pure i o.dst s
        | none => (match isIdx o.op with
          | true => .idx i o
          | false => pickFrom ti ops T c Ms r))
      | .no => .skip i o.dst
      | .unk t b => .split t b
      | .bad => pickFrom ti ops T c Ms r)
    | none => pickFrom ti ops T c Ms r

def allR : List Nat → (Nat → Prop) → Prop
  | [], _ => True
  | [i], p => p i
  | i :: r, p => BothW (p i) (allR r p)

theorem allR_mem : ∀ {l : List Nat} {p : Nat → Prop}, allR l p → ∀ i ∈ l, p i
  | [], _, _, i, hi => by cases hi
  | [x], _, h, i, hi => by simp at hi; subst hi; exact h
  | x :: y :: r, _, h, i, hi => by
    obtain ⟨h1, h2⟩ := h
    rcases List.mem_cons.1 hi with rfl | hi
    · exact h1
    · exact allR_mem h2 i hi

def noKey : List ((Nat × Nat) × SV) → Nat → Nat → Nat → Bool
  | [], _, _, _ => true
  | ((k, o), _) :: r, k', o', l => match Nat.beq k k' with
    | true => (match Nat.blt o o' with
      | true => noKey r k' o' l
      | false => (match Nat.blt o (o' + l) with
        | true => false
        | false => noKey r k' o' l))
    | false => noKey r k' o' l

theorem noKey_ok : ∀ {M : List ((Nat × Nat) × SV)} {k o l : Nat}, noKey M k o l = true → ∀ k' o' v, lookM M k' o' = some v → ¬ (k = k' ∧ o ≤ o' ∧ o' < o + l)
  | [], _, _, _, _, k', o', v, h => by simp [lookM] at h
  | ((a, b), x) :: r, k, o, l, h, k', o', v, hv => by
    rw [lookM_cons] at hv
    simp only [noKey] at h
    by_cases e : a = k' ∧ b = o'
    · obtain ⟨rfl, rfl⟩ := e
      split at h
      · rename_i hk
        have hk := Nat.eq_of_beq_eq_true hk
        split at h
        · rename_i hb
          have : b < o := by simpa using hb
          omega
        · split at h
          · cases h
          · rename_i hb
            have : ¬ b < o + l := fun h => by rw [show Nat.blt b (o + l) = true from by simpa using h] at hb; cases hb
            omega
      · rename_i hk
        have : ¬ a = k := fun e => by subst e; rw [Nat.beq_refl] at hk; cases hk
        omega
    · simp only [e, if_false] at hv
      split at h
      · split at h
        · exact noKey_ok h k' o' v hv
        · split at h
          · cases h
          · exact noKey_ok h k' o' v hv
      · exact noKey_ok h k' o' v hv

def keepF (Fs F : List Fct) : Prop := ∀ f ∈ Fs, f ∈ F

def keepM (Ms M : List ((Nat × Nat) × SV)) : Prop := ∀ k o v, lookM Ms k o = some v → lookM M k o = some v

/-- An operation that asks for a law, in a region that draws. -/
def opD (E : Env) (o : Oper) (Ms : List ((Nat × Nat) × SV)) (Fs : List Fct) (next : St → Prop) (T : List (Nat × SV)) (n c : Nat) (B : List (Nat × TypeId × Nat)) (M : List ((Nat × Nat) × SV)) (F : List Fct) : Prop :=
  keepM Ms M → keepF Fs F → ∀ A a w, WD E A n B M F w → TD E A T n c a w → o.wp E.P a w (fun a' w' => ∃ A' T' n' c' B' M' F', (∀ k, k < n → A' k = A k) ∧ n ≤ n' ∧ (∀ x ∈ B, x ∈ B') ∧ keepM Ms M' ∧ keepF Fs F' ∧ WD E A' n' B' M' F' w' ∧ (∀ w2, TD E A' T' n' c' a' w2) ∧ next (.mk T' n' c' B' M' F')) (fun _ _ _ => False)

/-- The same, where no block is made or written. -/
def opD0 (E : Env) (o : Oper) (Fs : List Fct) (next : St → Prop) (T : List (Nat × SV)) (n c : Nat) (B : List (Nat × TypeId × Nat)) (M : List ((Nat × Nat) × SV)) (F : List Fct) : Prop :=
  keepF Fs F → ∀ A a w, WD E A n B M F w → TD E A T n c a w → o.wp E.P a w (fun a' w' => ∃ T' c' F', WD E A n B M F' w' ∧ (∀ w2, TD E A T' n c' a' w2) ∧ keepF Fs F' ∧ next (.mk T' n c' B M F')) (fun _ _ _ => False)

theorem opD0.up {E : Env} {o : Oper} {Ms : List ((Nat × Nat) × SV)} {Fs : List Fct} {next : St → Prop} {T : List (Nat × SV)} {n c : Nat} {B : List (Nat × TypeId × Nat)} {M : List ((Nat × Nat) × SV)} {F : List Fct} (h : opD0 E o Fs next T n c B M F) : opD E o Ms Fs next T n c B M F := by
  intro hm hf A a w hW hT
  have := h hf A a w hW hT
  refine Oper.wp_mono (Q := fun _ _ _ => False) ?_ this
  rintro a' w' ⟨T', c', F', h1, h2, h3, h4⟩
  exact ⟨A, T', n, c', B, M, F', fun _ _ => rfl, Nat.le_refl _, fun _ h => h, hm, h3, h1, h2, h4⟩

def effD (E : Env) (ti : Nat → TI) (o : Oper) (Ms : List ((Nat × Nat) × SV)) (Fs : List Fct) (next : St → Prop) (T : List (Nat × SV)) (n c : Nat) (B : List (Nat × TypeId × Nat)) (M : List ((Nat × Nat) × SV)) (F : List Fct) : Op → Prop
  | .alloc t => (match ti t with
    | .mk _ sz zero _ _ _ _ _ => (match o.dst with
      | some d => (match Nat.blt d E.N with
        | true => (match Nat.beq (listLen zero) sz with
          | true => storeK n 0 (zero.map .v) M fun M' => next (.mk ((d, .p n 0) :: T) (n + 1) (c + 1) ((n, t, sz) :: B) M' F)
          | false => False)
        | false => False)
      | none => False)
    | .none => False)
  | .load t x => (match pLoad (ti t) T c M x with
    | some s => (match o.dst with
      | some d => (match Nat.blt d E.N with
        | true => (match s with
          | .e .. => False
          | s => next (.mk ((d, s) :: T) n (c + 1) B M F))
        | false => False)
      | none => False)
    | none => OpW (opD E o Ms Fs next T n c B M F))
  | .store t x y => (match o.dst with
    | some _ => False
    | none => (match evalO T x with
      | some (.p k off) => (match ti t with
        | .mk _ sz _ _ _ _ _ _ => (match evalO T y with
          | some s => (match cellsSV s with
            | some l => (match Nat.beq (listLen l) sz with
              | true => (match lookB B k with
                | some bsz => (match Nat.ble (off + sz) bsz with
                  | true => (match noKey Ms k off sz with
                    | true => storeK k off l M fun M' => next (.mk T n (c + 1) B M' F)
                    | false => False)
                  | false => False)
                | none => False)
              | false => False)
            | none => False)
          | none => False)
        | .none => False)
      | _ => OpW (opD E o Ms Fs next T n c B M F)))
  | .buildSlice t len ps => (match ti t with
    | .mk _ _ _ _ (some e) _ _ _ => (match ti e with
      | .mk _ esz _ _ _ _ _ _ => (match o.dst with
        | some d => (match Nat.blt d E.N with
          | true => (match Nat.beq (listLen ps.toList) len with
            | true => (match Nat.ble (len * esz + len) 16777216 with
              | true => (match bParts T esz 0 ps.toList with
                | some cs => AllSl fun y => next (.mk ((d, .v (y.val len)) :: T) n (c + 1) B M (fOwn false y e esz cs len :: F))
                | none => False)
              | false => False)
            | false => False)
          | false => False)
        | none => False)
      | .none => False)
    | _ => False)
  | _ => OpW (opD E o Ms Fs next T n c B M F)

/-- What has come up: structural twins of the model's questions. -/
def nthB : List Bool → Nat → Bool
  | [], _ => false
  | b :: _, 0 => b
  | _ :: r, n + 1 => nthB r n

def setB : List Bool → Nat → List Bool
  | [], _ => []
  | _ :: r, 0 => true :: r
  | b :: r, n + 1 => b :: setB r n

def falses : List Oper → List Bool
  | [] => []
  | _ :: r => false :: falses r

def rdyE (L : List Bool) : List Edge → Bool
  | [] => true
  | e :: r => match e.ground with
    | .textOnly _ => rdyE L r
    | .gcOnly _ => rdyE L r
    | _ => (match nthB L e.on with
      | true => rdyE L r
      | false => false)

def readyB (L : List Bool) : Nat → List Oper → List Bool → List Nat
  | k, o :: r, b :: l => (match b with
    | true => readyB L (k + 1) r l
    | false => (match rdyE L o.after.toList with
      | true => k :: readyB L (k + 1) r l
      | false => readyB L (k + 1) r l))
  | _, _, _ => []

def hasEdge (o : Oper) (i : Nat) : Bool := o.after.any fun e => Region.binds .any e && e.on == i

def apartAll (ops : Array Oper) : Bool := (List.range ops.size).all fun i => (List.range ops.size).all fun j => match ops[i]?, ops[j]? with
  | some x, some y => i == j || hasEdge x j || hasEdge y i || x.apart ops y
  | _, _ => true

theorem nthB_eq : ∀ (L : List Bool) (i : Nat), nthB L i = L.toArray.getD i false
  | [], i => by simp [nthB]
  | b :: r, 0 => by simp [nthB]
  | b :: r, i + 1 => by rw [nthB, nthB_eq r i]; simp [Array.getD_eq_getD_getElem?]

theorem setB_eq : ∀ (L : List Bool) (i : Nat), setB L i = L.set i true
  | [], i => by simp [setB]
  | b :: r, 0 => by simp [setB]
  | b :: r, i + 1 => by rw [setB, setB_eq r i]; simp

theorem falses_eq : ∀ (l : List Oper), falses l = List.replicate l.length false
  | [] => rfl
  | _ :: r => by rw [falses, falses_eq r, List.length_cons, List.replicate_succ]

theorem rdyE_eq (L : List Bool) : ∀ (es : List Edge), rdyE L es = true ↔ ∀ e ∈ es, Region.binds .any e = true → L.toArray.getD e.on false = true
  | [] => by simp [rdyE]
  | e :: r => by
    rw [List.forall_mem_cons, ← rdyE_eq L r, ← nthB_eq]
    have e1 : (Region.Mode.any == Region.Mode.text) = false := rfl
    have e2 : (Region.Mode.any == Region.Mode.gc) = false := rfl
    cases hg : e.ground <;> cases hn : nthB L e.on <;> simp [rdyE, Region.binds, hg, hn, e1, e2]

theorem mem_readyB' (L : List Bool) : ∀ (ops : List Oper) (l : List Bool) (k i : Nat), i ∈ readyB L k ops l ↔ ∃ j, i = k + j ∧ l[j]? = some false ∧ ∃ o, ops[j]? = some o ∧ rdyE L o.after.toList = true
  | [], l, k, i => by cases l <;> simp [readyB]
  | o :: r, [], k, i => by simp [readyB]
  | o :: r, b :: l, k, i => by
    have ih := mem_readyB' L r l (k + 1) i
    have e : (∃ j, i = k + j ∧ (b :: l)[j]? = some false ∧ ∃ x, (o :: r)[j]? = some x ∧ rdyE L x.after.toList = true) ↔ (i = k ∧ b = false ∧ rdyE L o.after.toList = true) ∨ (∃ j, i = k + 1 + j ∧ l[j]? = some false ∧ ∃ x, r[j]? = some x ∧ rdyE L x.after.toList = true) := by
      constructor
      · rintro ⟨j, h1, h2, x, h3, h4⟩
        cases j with
        | zero =>
          simp only [List.getElem?_cons_zero, Option.some.injEq] at h2 h3
          subst h3
          exact .inl ⟨h1, h2, h4⟩
        | succ j => exact .inr ⟨j, by omega, by simpa using h2, x, by simpa using h3, h4⟩
      · rintro (⟨h1, h2, h3⟩ | ⟨j, h1, h2, x, h3, h4⟩)
        · exact ⟨0, h1, by simp [h2], o, by simp, h3⟩
        · exact ⟨j + 1, by omega, by simpa using h2, x, by simpa using h3, h4⟩
    rw [e, ← ih]
    cases b with
    | true => simp [readyB]
    | false => cases hr : rdyE L o.after.toList <;> simp [readyB, hr]

theorem mem_readyB {L : List Bool} {ops : List Oper} {i : Nat} : i ∈ readyB L 0 ops L ↔ i ∈ Region.ready .any ops.toArray L.toArray := by
  rw [mem_readyB', mem_ready]
  constructor
  · rintro ⟨j, h1, h2, o, h3, h4⟩
    obtain rfl : i = j := by omega
    exact ⟨by simp [Array.getD_eq_getD_getElem?, h2], o, by simpa using h3, fun e he => (rdyE_eq L _).1 h4 e (by simpa using he)⟩
  · rintro ⟨h2, o, h3, h4⟩
    refine ⟨i, by omega, ?_, o, by simpa using h3, (rdyE_eq L _).2 fun e he => h4 e (by simpa using he)⟩
    rw [Array.getD_eq_getD_getElem?] at h2
    simp only [List.getElem?_toArray] at h2
    cases hx : L[i]? with
    | none => rw [hx] at h2; simp at h2
    | some b => rw [hx] at h2; simp at h2; rw [h2]

theorem free_of_apart {ops : List Oper} (h : apartAll ops.toArray = true) {L : List Bool} {i : Nat} (hi : i ∈ Region.ready .any ops.toArray L.toArray) : Region.free .any ops.toArray L.toArray i = true := by
  obtain ⟨h1, o, h2, h3⟩ := mem_ready.1 hi
  unfold Region.free
  rw [h2]
  simp only [List.all_eq_true]
  intro j hj
  have hil : i < ops.toArray.size := (Array.getElem?_eq_some_iff.1 h2).1
  simp only [apartAll, List.all_eq_true] at h
  have hij := h i (by simpa using hil) j hj
  rw [h2] at hij
  cases hjo : ops.toArray[j]? with
  | none => simp
  | some oj =>
    rw [hjo] at hij
    simp only [Bool.or_eq_true] at hij ⊢
    rcases hij with ((hij | hij) | hij) | hij
    · exact .inl (.inl (by simp only [beq_iff_eq] at hij ⊢; exact hij.symm))
    · left; right
      simp only [hasEdge, Array.any_eq_true', Bool.and_eq_true, beq_iff_eq] at hij
      obtain ⟨e, he, hb, rfl⟩ := hij
      have := h3 e he hb
      rw [Array.getD_eq_getD_getElem?] at this ⊢
      cases hx : L.toArray[e.on]? with
      | none => rw [hx] at this; simp at this
      | some b => rw [hx] at this; simp at this; simp [this]
    · right; left; exact hij
    · right; right; exact hij

/-- The region: fuel, what has come up, the state. -/
def vcD (E : Env) (ti : Nat → TI) (ops : List Oper) (n0 : Nat) (B0 : List (Nat × TypeId × Nat)) (Ms : List ((Nat × Nat) × SV)) (Fs : List Fct) (K : St → Prop) : Nat → List Bool → St → Prop
  | 0, _, _ => False
  | f + 1, L, .mk T n c B M F => match pickFrom ti ops T c Ms (readyB L 0 ops L) with
    | .pure i d s => (match d with
        | some d => (match Nat.blt d E.N with
          | true => vcD E ti ops n0 B0 Ms Fs K f (setB L i) (.mk ((d, s) :: T) n c B M F)
          | false => False)
        | none => vcD E ti ops n0 B0 Ms Fs K f (setB L i) (.mk T n c B M F))
    | .skip i d => (match d with
        | some d => (match Nat.blt d E.N with
          | true => vcD E ti ops n0 B0 Ms Fs K f (setB L i) (.mk ((d, .v undef) :: T) n c B M F)
          | false => False)
        | none => vcD E ti ops n0 B0 Ms Fs K f (setB L i) (.mk T n c B M F))
    | .split t b => CaseB b (vcD E ti ops n0 B0 Ms Fs K f L (.mk ((t, .lit true) :: T) n c B M F)) (vcD E ti ops n0 B0 Ms Fs K f L (.mk ((t, .lit false) :: T) n c B M F))
    | .idx i o => OpW (∀ A, ∃ s : SV, (∀ a w, WD E A n0 B0 Ms Fs w → TD E A T n c a w → (execOp a.eval o).run E.P w = .ok (.value (s.den A)) w ∧ s.okT n c w) ∧ (∃ d, Dst E o d ∧ vcD E ti ops n0 B0 Ms Fs K f (setB L i) (.mk ((d, s) :: T) n c B M F)))
    | .none => (match readyB L 0 ops L with
      | [] => K (.mk T n c B M F)
      | i :: r => allR (i :: r) fun i => match nth ops i with
        | some o => (match guardSt ops T o.guard with
          | .go => effD E ti o Ms Fs (fun s' => vcD E ti ops n0 B0 Ms Fs K f (setB L i) s') T n c B M F o.op
          | _ => False)
        | none => False)

section

variable {E : Env} {ti : Nat → TI}

theorem den_agree {A A' : Nat → Nat} {n : Nat} (h : ∀ k, k < n → A k = A' k) {v : SV} (hv : v.small n) : v.den A = v.den A' := by
  cases v with
  | p k o => simp [SV.den, ptr, h k hv]
  | f g cap =>
    simp only [SV.den]
    congr 2
    apply List.map_congr_left
    intro x hx
    simp [ptr, h x.1 (hv x hx)]
  | _ => rfl

theorem WD.agree {A A' : Nat → Nat} {n : Nat} {B : List (Nat × TypeId × Nat)} {M : List ((Nat × Nat) × SV)} {F : List Fct} {w : World} (h : WD E A n B M F w) (ha : ∀ k, k < n → A k = A' k) : WD E A' n B M F w := by
  refine ⟨?_, ?_, ?_, ?_, h.n0, h.ext, ?_, h.dj⟩
  · intro k ty sz hk
    have := h.key k ty sz hk
    rw [ha k this.1] at this
    exact this
  · intro k ty sz k' ty' sz' hk hk' e
    rw [← ha k (h.key _ _ _ hk).1, ← ha k' (h.key _ _ _ hk').1] at e
    exact h.inj _ _ _ _ _ _ hk hk' e
  · intro k o v hv
    obtain ⟨⟨ty, sz, hk⟩, h2, h3⟩ := h.mem k o v hv
    refine ⟨⟨ty, sz, hk⟩, ?_, h3⟩
    rw [← ha k (h.key _ _ _ hk).1, ← den_agree ha h3]
    exact h2
  · intro k hk
    rw [← ha k (Nat.lt_of_lt_of_le hk h.n0)]
    exact h.a0 k hk
  · intro f hf
    obtain ⟨h1, h2, h3⟩ := h.fct f hf
    exact ⟨h1, fun b hb => ⟨(h2 b hb).1, fun k ty sz hk => by rw [← ha k (h.key _ _ _ hk).1]; exact (h2 b hb).2 k ty sz hk⟩, h3⟩

/-- How the state at hand stands to the one at the region's beginning. -/
structure InvD (E : Env) (A0 : Nat → Nat) (n0 : Nat) (B0 : List (Nat × TypeId × Nat)) (Ms : List ((Nat × Nat) × SV)) (Fs : List Fct) (A : Nat → Nat) (n : Nat) (B : List (Nat × TypeId × Nat)) (M : List ((Nat × Nat) × SV)) (F : List Fct) (w : World) : Prop where
  ag : ∀ k, k < n0 → A k = A0 k
  hn : n0 ≤ n
  hb : ∀ x ∈ B0, x ∈ B
  hm : ∀ k o v, lookM Ms k o = some v → lookM M k o = some v
  hf : keepF Fs F
  hw : WD E A n B M F w

theorem InvD.start {A0 A : Nat → Nat} {n0 n : Nat} {B0 B : List (Nat × TypeId × Nat)} {Ms M : List ((Nat × Nat) × SV)} {Fs F : List Fct} {w ws : World} (h : InvD E A0 n0 B0 Ms Fs A n B M F w) (hs : WD E A0 n0 B0 Ms Fs ws) : WD E A0 n0 B0 Ms Fs w := by
  refine ⟨?_, ?_, ?_, hs.a0, hs.n0, h.hw.ext, ?_, hs.dj⟩
  · intro k ty sz hk
    obtain ⟨h1, _⟩ := hs.key k ty sz hk
    obtain ⟨_, h2⟩ := h.hw.key k ty sz (h.hb _ hk)
    rw [h.ag k h1] at h2
    exact ⟨h1, h2⟩
  · exact hs.inj
  · intro k o v hv
    obtain ⟨⟨ty, sz, hk⟩, _, h3⟩ := hs.mem k o v hv
    refine ⟨⟨ty, sz, hk⟩, ?_, h3⟩
    have := (h.hw.mem k o v (h.hm k o v hv)).2.1
    rw [h.ag k (hs.key _ _ _ hk).1, den_agree h.ag h3] at this
    exact this
  · intro f hf
    obtain ⟨h1, h2, h3⟩ := h.hw.fct f (h.hf f hf)
    exact ⟨h1, fun b hb => ⟨(h2 b hb).1, fun k ty sz hk => by rw [← h.ag k (hs.key _ _ _ hk).1]; exact (h2 b hb).2 k ty sz (h.hb _ hk)⟩, h3⟩

/-- A slice is built: the run. -/
theorem buildSlice_run {A : Nat → Nat} {T : List (Nat × SV)} {n c : Nat} {a : Act} {w : World} (hti : ∀ t, TIok E.P t (ti t)) (hT : TD E A T n c a w) {o : Oper} {t e len : Nat} {ps : Array (Nat × Operand)} {agg : Bool} {size : Nat} {zero : List Value} {fs : List (Nat × Nat × Bool)} {ik : Option IntKind} {kd bytes : Nat} {agg2 : Bool} {esz : Nat} {zero2 : List Value} {fs2 : List (Nat × Nat × Bool)} {el2 : Option TypeId} {ik2 : Option IntKind} {kd2 bytes2 : Nat} {cs : List Value}
    (hop : o.op = .buildSlice t len ps) (hte : ti t = .mk agg size zero fs (some e) ik kd bytes) (hte2 : ti e = .mk agg2 esz zero2 fs2 el2 ik2 kd2 bytes2) (hplen : Nat.beq (listLen ps.toList) len = true) (h24 : Nat.ble (len * esz + len) 16777216 = true) (hcs : bParts T esz 0 ps.toList = some cs) :
    (execOp a.eval o).run E.P w = .ok (.value (.slice (some ⟨w.heap.size, 0, none⟩) len len)) (w.alloc (.cells cs.toArray e)) ∧ Ext w (w.alloc (.cells cs.toArray e)) ∧ New w (w.alloc (.cells cs.toArray e)) [fOwn false ⟨some ⟨w.heap.size, 0, none⟩, len⟩ e esz cs len] := by
  have htt := hti t
  rw [hte] at htt
  obtain ⟨ii, dd, z, e1, e2, e3, e4, e5, e6, e7, e8, e9, e10, e11⟩ := tiSum_parts htt
  have htt2 := hti e
  rw [hte2] at htt2
  obtain ⟨ii2, dd2, z2, k1, k2, k3, k4, k5, k6, k7, k8, k9, k10, k11⟩ := tiSum_parts htt2
  have hdd := el_slice e8
  have hlen := Nat.eq_of_beq_eq_true hplen
  rw [listLen_eq] at hlen
  have h24' := Nat.le_of_ble_eq_true h24
  obtain ⟨r, g1, g2, g3⟩ : ∃ r, cs.length = len * esz ∧ Instr.fill (fun i => some (i * esz, esz)) ((Array.range (len * esz)).map (((if len * esz = 0 then #[] else z2.cells) : Array Value)[· % ((if len * esz = 0 then #[] else z2.cells) : Array Value).size]!)) (ps.toList.map fun x => (x.1, a.eval x.2)) = some r ∧ r.toList = cs := by
    obtain ⟨q1, r, q2, q3⟩ := fill_parts hT (acc := (Array.range (len * esz)).map (((if len * esz = 0 then #[] else z2.cells) : Array Value)[· % ((if len * esz = 0 then #[] else z2.cells) : Array Value).size]!)) hcs (by simp [hlen])
    exact ⟨r, by rw [q1, hlen], q2, by simpa using q3⟩
  have hrcs : r = cs.toArray := by apply Array.ext'; simpa using g3
  have hr : (execOp a.eval o).run E.P w = .ok (.value (.slice (some ⟨w.heap.size, 0, none⟩) len len)) (w.alloc (.cells cs.toArray e)) := by
    have hps : (ps.map fun (x : Nat × Operand) => (x.1, a.eval x.2)).toList = ps.toList.map fun x => (x.1, a.eval x.2) := by simp
    have hdd2 : E.P.underlying t = some (.slice e) := by rw [e2, hdd]
    simp only [execOp, hop, Instr.buildSlice, Sem.run_bind, underlying, run_program, Result.andThen_ok, hdd2, Sem.run_pure, run_sizeOf k1, k4, hps]
    rw [if_neg (show ¬ (len * esz > 2 ^ 24) by omega)]
    by_cases h0 : len * esz = 0
    · simp only [h0, if_true] at g2 ⊢
      simp only [Sem.run_bind, Sem.run_pure, Result.andThen_ok]
      rw [g2]
      simp [newRow, hrcs]
    · simp only [h0, if_false] at g2 ⊢
      simp only [Sem.run_bind, Sem.run_pure, Result.andThen_ok, zeroValue, typeInfo, run_program, k1, k5]
      rw [g2]
      simp [newRow, hrcs]
  have hex := Ext.alloc w (.cells cs.toArray e)
  have hown : (w.alloc (.cells cs.toArray e)).ownsRow 0 e esz (Sl.val ⟨some ⟨w.heap.size, 0, none⟩, len⟩ len) len cs := by
    refine ⟨g1, .inr ⟨w.heap.size, len, cs.toArray, rfl, Nat.zero_le _, heap_alloc_new w _, Nat.le_refl _, ?_, by simp [g1], ?_⟩⟩
    · simp only [maxLen]; omega
    · simp [← g1]
  have hnew : New w (w.alloc (.cells cs.toArray e)) [fOwn false ⟨some ⟨w.heap.size, 0, none⟩, len⟩ e esz cs len] := by
    refine ⟨fun f hf => ?_, List.pairwise_singleton _ _⟩
    simp only [List.mem_singleton] at hf
    subst hf
    refine ⟨hown, rfl, fun b hb => ?_⟩
    obtain ⟨ad, h1, h2⟩ := hb
    simp only [Option.some.injEq] at h1
    subst h1
    simp at h2
    subst h2
    simp
  exact ⟨hr, hex, hnew⟩

theorem effD_sound (hti : ∀ t, TIok E.P t (ti t)) {o : Oper} {next : St → Prop} {A0 A : Nat → Nat} {n0 n c : Nat} {B0 B : List (Nat × TypeId × Nat)} {Ms M : List ((Nat × Nat) × SV)} {Fs F : List Fct} {T : List (Nat × SV)} {a : Act} {w ws : World}
    (hv : effD E ti o Ms Fs next T n c B M F o.op) (hI : InvD E A0 n0 B0 Ms Fs A n B M F w) (hs : WD E A0 n0 B0 Ms Fs ws) (hT : TD E A T n c a w) {K : Act → World → Prop} {Q : Exit → Act → World → Prop}
    (hK : ∀ A' T' n' c' B' M' F' a' w', InvD E A0 n0 B0 Ms Fs A' n' B' M' F' w' → (∀ w2, TD E A' T' n' c' a' w2) → next (.mk T' n' c' B' M' F') → K a' w') :
    o.wp E.P a w K Q := by
  have hMlt : ∀ k o v, lookM Ms k o = some v → k < n0 := fun k o v hv => by
    obtain ⟨⟨ty, sz, hk⟩, _⟩ := hs.mem k o v hv
    exact (hs.key _ _ _ hk).1
  cases hop : o.op <;> rw [hop] at hv <;> simp only [effD] at hv
  case alloc t =>
    split at hv
    · rename_i agg sz zero fs el ik kd bytes hte
      split at hv
      · rename_i d hd
        split at hv
        · rename_i hdn
          split at hv
          · rename_i hlen
            have htt := hti t
            rw [hte] at htt
            obtain ⟨ii, dd, z, e1, e2, e3, e4, e5, e6, e7, e8, e9, e10, e11⟩ := tiSum_parts htt
            rw [storeK_eq] at hv
            have hsz := Nat.eq_of_beq_eq_true hlen
            rw [listLen_eq] at hsz
            have hal := hI.hw.alloc (l := zero.map .v) (fun x hx => by obtain ⟨y, _, rfl⟩ := List.mem_map.1 hx; trivial) t
            have hcells : ((zero.map SV.v).map (SV.den A)).toArray = z.cells := by
              rw [List.map_map, show (SV.den A ∘ SV.v) = id from rfl, List.map_id, ← e6]
            rw [hcells, List.length_map, hsz] at hal
            have hr : (execOp a.eval o).run E.P w = .ok (.value (.pointer (some ⟨w.heap.size, 0, none⟩))) (w.alloc (.cells z.cells t)) := by
              simp [execOp, hop, run_alloc e1 e5]
            refine upon_of_value hr ?_
            rw [hd]
            refine hK (fun k => if k = n then w.heap.size else A k) _ _ _ _ _ _ _ _ ⟨fun k hk => ?_, Nat.le_succ_of_le hI.hn, fun x hx => by simp [hI.hb x hx], fun k o v hv => ?_, hI.hf, hal⟩ (fun w2 => ?_) hv
            · have := hI.hn
              simp only [if_neg (show k ≠ n by omega)]
              exact hI.ag k hk
            · have := hI.hn
              have hk := hMlt k o v hv
              rw [lookM_storeL, if_neg (by omega)]
              exact hI.hm k o v hv
            · have := (hT.alloc w.heap.size w2).put (d := d) (v := .p n 0) (by simpa using hdn) (Nat.lt_succ_self n)
              simpa [SV.den, ptr] using this
          · exact hv.elim
        · exact hv.elim
      · exact hv.elim
    · exact hv.elim
  case load t x =>
    split at hv
    · rename_i s hsl
      split at hv
      · rename_i d hd
        split at hv
        · rename_i hdn
          obtain ⟨h1, h2⟩ := pLoad_sound hti (fun k o v hv => (hI.hw.mem k o v hv).2) hT hsl o hop
          refine upon_of_value h1 ?_
          rw [hd]
          split at hv
          · exact hv.elim
          · rename_i hne
            refine hK A _ _ _ _ _ _ _ _ ⟨hI.ag, hI.hn, hI.hb, hI.hm, hI.hf, hI.hw⟩ (fun w2 => (hT.step w2).put (by simpa using hdn) ?_) hv
            cases s with
            | e s ad cs off => exact (hne s ad cs off rfl).elim
            | p k o => exact h2
            | f g cap => exact h2
            | _ => trivial
        · exact hv.elim
      · exact hv.elim
    · obtain ⟨hv⟩ := hv
      exact Oper.wp_weak (fun a w ⟨A', T', n', c', B', M', F', g1, g2, g3, g4, g5, h1, h2, h4⟩ => hK A' _ _ _ _ _ _ _ _ ⟨fun k hk => (g1 k (Nat.lt_of_lt_of_le hk hI.hn)).trans (hI.ag k hk), Nat.le_trans hI.hn g2, fun x hx => g3 x (hI.hb x hx), g4, g5, h1⟩ h2 h4) (hv hI.hm hI.hf A a w hI.hw hT)
  case store t x y =>
    split at hv
    · exact hv.elim
    · rename_i hd
      split at hv
      · rename_i k off hx
        split at hv
        · rename_i agg sz zero fs el ik kd bytes hte
          split at hv
          · rename_i s hs'
            split at hv
            · rename_i l hl
              split at hv
              · rename_i hlen
                split at hv
                · rename_i bsz hb
                  split at hv
                  · rename_i hle
                    split at hv
                    · rename_i hnk
                      rw [storeK_eq] at hv
                      have htt := hti t
                      rw [hte] at htt
                      obtain ⟨ii, dd, z, e1, e2, e3, e4, e5, e6, e7, e8, e9, e10, e11⟩ := tiSum_parts htt
                      obtain ⟨h1, h2⟩ := evalO_sound hT hs'
                      obtain ⟨h3, h4⟩ := evalO_sound hT hx
                      obtain ⟨c1, c2, c3⟩ := cellsSV_spec (A := A) hl h2
                      obtain ⟨ty, hmem⟩ := lookB_mem hb
                      have hsz := Nat.eq_of_beq_eq_true hlen
                      rw [listLen_eq] at hsz
                      obtain ⟨w', hrun, hW'⟩ := hI.hw.store hmem c2 c3 (by rw [hsz]; exact Nat.le_of_ble_eq_true hle) E.P
                      have hcs : (s.den A).cells.size = ii.size := by
                        have : (s.den A).cells.toList.length = l.length := by rw [c1]; simp
                        simp at this
                        rw [this, hsz, e4]
                      have hr : (execOp a.eval o).run E.P w = .ok .skip w' := by
                        have h3' : a.eval x = .pointer (some ⟨A k, off, none⟩) := h3
                        simp only [execOp, hop, Instr.storeAt, h1, h3', Instr.sureAddr, Sem.run_bind, Sem.run_pure, Result.andThen_ok, storeVar, run_sizeOf e1]
                        rw [if_neg (by simp [hcs]), c1]
                        simp only [Result.andThen_ok, hrun]
                      refine upon_of_skip hr ?_
                      rw [hd]
                      refine hK A _ _ _ _ _ _ _ _ ⟨hI.ag, hI.hn, hI.hb, fun k' o' v hv => ?_, hI.hf, hW'⟩ (fun w2 => hT.step w2) hv
                      rw [lookM_storeL, if_neg (by rw [hsz]; exact noKey_ok hnk k' o' v hv)]
                      exact hI.hm k' o' v hv
                    · exact hv.elim
                  · exact hv.elim
                · exact hv.elim
              · exact hv.elim
            · exact hv.elim
          · exact hv.elim
        · exact hv.elim
      · obtain ⟨hv⟩ := hv
        exact Oper.wp_weak (fun a w ⟨A', T', n', c', B', M', F', g1, g2, g3, g4, g5, h1, h2, h4⟩ => hK A' _ _ _ _ _ _ _ _ ⟨fun k hk => (g1 k (Nat.lt_of_lt_of_le hk hI.hn)).trans (hI.ag k hk), Nat.le_trans hI.hn g2, fun x hx => g3 x (hI.hb x hx), g4, g5, h1⟩ h2 h4) (hv hI.hm hI.hf A a w hI.hw hT)
  case buildSlice t len ps =>
    split at hv
    · rename_i e ik kd bytes hte
      split at hv
      · rename_i agg2 esz zero2 fs2 el2 ik2 kd2 bytes2 hte2
        split at hv
        · rename_i d hd
          split at hv
          · rename_i hdn
            split at hv
            · rename_i hplen
              split at hv
              · rename_i h24
                split at hv
                · rename_i cs hcs
                  obtain ⟨hv⟩ := hv
                  obtain ⟨hr, hex, hnew⟩ := buildSlice_run hti hT hop hte hte2 hplen h24 hcs
                  refine upon_of_value hr ?_
                  rw [hd]
                  exact hK A _ _ _ _ _ _ _ _ ⟨hI.ag, hI.hn, hI.hb, hI.hm, fun f hf => List.mem_cons_of_mem _ (hI.hf f hf), hI.hw.learn hex hnew⟩ (fun w2 => (hT.step w2).put (d := d) (v := .v (Sl.val ⟨some ⟨w.heap.size, 0, none⟩, len⟩ len)) (by simpa using hdn) trivial) (hv ⟨some ⟨w.heap.size, 0, none⟩, len⟩)
                · exact hv.elim
              · exact hv.elim
            · exact hv.elim
          · exact hv.elim
        · exact hv.elim
      · exact hv.elim
    · exact hv.elim
  all_goals
    obtain ⟨hv⟩ := hv
    exact Oper.wp_weak (fun a w ⟨A', T', n', c', B', M', F', g1, g2, g3, g4, g5, h1, h2, h4⟩ => hK A' _ _ _ _ _ _ _ _ ⟨fun k hk => (g1 k (Nat.lt_of_lt_of_le hk hI.hn)).trans (hI.ag k hk), Nat.le_trans hI.hn g2, fun x hx => g3 x (hI.hb x hx), g4, g5, h1⟩ h2 h4) (hv hI.hm hI.hf A a w hI.hw hT)

def unl : List Bool → Nat
  | [] => 0
  | true :: r => unl r
  | false :: r => unl r + 1

theorem unl_set : ∀ {l : List Bool} {i : Nat}, l[i]? = some false → unl (l.set i true) + 1 = unl l
  | [], i, h => by simp at h
  | b :: r, 0, h => by simp at h; subst h; simp [unl]
  | b :: r, i + 1, h => by
    simp at h
    have := unl_set h
    cases b <;> simp [unl] <;> omega

theorem unl_ready {md : Region.Mode} {ops : Array Oper} {L : Array Bool} {i : Nat} (h : i ∈ Region.ready md ops L) : unl (L.setIfInBounds i true).toList + 1 = unl L.toList := by
  have h0 := (mem_ready.1 h).1
  have h1 : L.toList[i]? = some false := by
    rw [Array.getD_eq_getD_getElem?] at h0
    rw [Array.getElem?_toList]
    cases hx : L[i]? with
    | none => rw [hx] at h0; simp at h0
    | some b => rw [hx] at h0; simp at h0; rw [h0]
  rw [Array.toList_setIfInBounds]
  exact unl_set h1

theorem guardSt_go {A : Nat → Nat} {T : List (Nat × SV)} {n c : Nat} {a : Act} {w : World} (h : TD E A T n c a w) {ops : List Oper} {g : Option (Nat × Bool)} (hg : guardSt ops T g = .go) (o : Oper) (ho : o.guard = g) : Region.wanted o (yielded ops.toArray a.tmps) = true := by
  unfold guardSt at hg
  split at hg
  · simp [Region.wanted, ho]
  · rename_i j want
    split at hg
    · rename_i t b hgv
      have hy := (gval_yield h hgv (b := b) rfl).1
      split at hg <;> first | (cases hg; done) | simp [Region.wanted, ho, hy]
    · cases hg
    · cases hg
    · cases hg

theorem guardSt_no {A : Nat → Nat} {T : List (Nat × SV)} {n c : Nat} {a : Act} {w : World} (h : TD E A T n c a w) {ops : List Oper} {g : Option (Nat × Bool)} (hg : guardSt ops T g = .no) (o : Oper) (ho : o.guard = g) : Region.wanted o (yielded ops.toArray a.tmps) = false := by
  unfold guardSt at hg
  split at hg
  · cases hg
  · rename_i j want
    split at hg
    · rename_i t b hgv
      have hy := (gval_yield h hgv (b := b) rfl).1
      split at hg <;> first | (cases hg; done) | simp [Region.wanted, ho, hy]
    · cases hg
    · rename_i t xs hgv
      have hy := gval_none h hgv (xs := xs) rfl
      simp [Region.wanted, ho, hy]
    · cases hg

theorem guardSt_unk {A : Nat → Nat} {T : List (Nat × SV)} {n c : Nat} {a : Act} {w : World} (h : TD E A T n c a w) {ops : List Oper} {g : Option (Nat × Bool)} {t : Nat} {b : Bool} (hg : guardSt ops T g = .unk t b) : look T t = some (.v (.bool b)) := by
  unfold guardSt at hg
  split at hg
  · cases hg
  · rename_i j want
    split at hg
    · split at hg <;> cases hg
    · rename_i hgv
      have := (gval_yield h hgv (b := _) rfl).2
      cases hg
      exact this
    · cases hg
    · cases hg

/-- What a pick says. -/
theorem pick_spec {ti : Nat → TI} {ops : List Oper} {T : List (Nat × SV)} {c : Nat} {Ms : List ((Nat × Nat) × SV)} : ∀ (rs : List Nat),
    (∀ i d s, pickFrom ti ops T c Ms rs = .pure i d s → i ∈ rs ∧ ∃ o, ops[i]? = some o ∧ guardSt ops T o.guard = .go ∧ pureV ti T c Ms o.op = some s ∧ o.dst = d) ∧
    (∀ i d, pickFrom ti ops T c Ms rs = .skip i d → i ∈ rs ∧ ∃ o, ops[i]? = some o ∧ guardSt ops T o.guard = .no ∧ o.dst = d) ∧
    (∀ t b, pickFrom ti ops T c Ms rs = .split t b → ∃ o : Oper, guardSt ops T o.guard = .unk t b) ∧
    (∀ i o, pickFrom ti ops T c Ms rs = .idx i o → i ∈ rs ∧ ops[i]? = some o ∧ guardSt ops T o.guard = .go)
  | [] => ⟨fun _ _ _ h => (by cases h), fun _ _ h => (by cases h), fun _ _ h => (by cases h), fun _ _ h => (by cases h)⟩
  | i :: r => by
    have ih := pick_spec (ti := ti) (ops := ops) (T := T) (c := c) (Ms := Ms) r
    have up : (∀ j d s, pickFrom ti ops T c Ms r = .pure j d s → j ∈ i :: r ∧ ∃ o, ops[j]? = some o ∧ guardSt ops T o.guard = .go ∧ pureV ti T c Ms o.op = some s ∧ o.dst = d) ∧
        (∀ j d, pickFrom ti ops T c Ms r = .skip j d → j ∈ i :: r ∧ ∃ o, ops[j]? = some o ∧ guardSt ops T o.guard = .no ∧ o.dst = d) ∧
        (∀ t b, pickFrom ti ops T c Ms r = .split t b → ∃ o : Oper, guardSt ops T o.guard = .unk t b) ∧
        (∀ j o, pickFrom ti ops T c Ms r = .idx j o → j ∈ i :: r ∧ ops[j]? = some o ∧ guardSt ops T o.guard = .go) :=
      ⟨fun j d s h => ⟨List.mem_cons_of_mem _ (ih.1 j d s h).1, (ih.1 j d s h).2⟩, fun j d h => ⟨List.mem_cons_of_mem _ (ih.2.1 j d h).1, (ih.2.1 j d h).2⟩, ih.2.2.1, fun j o h => ⟨List.mem_cons_of_mem _ (ih.2.2.2 j o h).1, (ih.2.2.2 j o h).2⟩⟩
    simp only [pickFrom]
    cases ho : nth ops i with
    | none => exact up
    | some o =>
      rw [nth_eq] at ho
      dsimp only
      cases hg : guardSt ops T o.guard with
      | go =>
        dsimp only
        cases hp : pureV ti T c Ms o.op with
        | some s =>
          dsimp only
          refine ⟨fun j d s' h => ?_, fun _ _ h => (by cases h), fun _ _ h => (by cases h), fun _ _ h => (by cases h)⟩
          cases h
          exact ⟨by simp, o, ho, hg, hp, rfl⟩
        | none =>
          dsimp only
          cases hi : isIdx o.op with
          | true =>
            dsimp only
            refine ⟨fun _ _ _ h => (by cases h), fun _ _ h => (by cases h), fun _ _ h => (by cases h), fun j o' h => ?_⟩
            cases h
            exact ⟨by simp, ho, hg⟩
          | false => dsimp only; exact up
      | no =>
        dsimp only
        refine ⟨fun _ _ _ h => (by cases h), fun j d h => ?_, fun _ _ h => (by cases h), fun _ _ h => (by cases h)⟩
        cases h
        exact ⟨by simp, o, ho, hg, rfl⟩
      | unk t b =>
        dsimp only
        refine ⟨fun _ _ _ h => (by cases h), fun _ _ h => (by cases h), fun t' b' h => ?_, fun _ _ h => (by cases h)⟩
        cases h
        exact ⟨o, hg⟩
      | bad => dsimp only; exact up

theorem vcD_sound (hti : ∀ t, TIok E.P t (ti t)) {ops : List Oper} {A0 : Nat → Nat} {n0 : Nat} {B0 : List (Nat × TypeId × Nat)} {Ms : List ((Nat × Nat) × SV)} {Fs : List Fct} {K : St → Prop} {ws : World} (hs : WD E A0 n0 B0 Ms Fs ws) (hns : Region.noSelect ops.toArray = true) (hap : apartAll ops.toArray = true) :
    ∀ (f : Nat) (L : List Bool) (T : List (Nat × SV)) (n c : Nat) (B : List (Nat × TypeId × Nat)) (M : List ((Nat × Nat) × SV)) (F : List Fct) (A : Nat → Nat) (a : Act) (w : World) (k : Nat),
      vcD E ti ops n0 B0 Ms Fs K f L (.mk T n c B M F) → InvD E A0 n0 B0 Ms Fs A n B M F w → (∀ w2, WD E A0 n0 B0 Ms Fs w2 → TD E A T n c a w2) → unl L ≤ k →
      wpAnyH E.P .any ops.toArray (postD E K) (fun w => WD E A0 n0 B0 Ms Fs w) k L.toArray a w
  | 0, _, _, _, _, _, _, _, _, _, _, _, hv, _, _, _ => (hv : False).elim
  | f + 1, L, T, n, c, B, M, F, A, a, w, k, hv, hI, hT, hk => by
    have hS := hI.start hs
    have hTw := hT w hS
    have hloc : ∀ w2, WD E A0 n0 B0 Ms Fs w2 → WD E A n0 B0 Ms Fs w2 := fun w2 h => h.agree (fun k hk => (hI.ag k hk).symm)
    have hQ : ∀ (c : List PanicEntry) (a1 a2 : Act) (w : World), postD E K (.panic c) a1 w → postD E K (.panic c) a2 w := fun _ _ _ _ h => h
    have hset : ∀ i, L.toArray.setIfInBounds i true = (setB L i).toArray := fun i => by rw [setB_eq]; simp
    have hunl : ∀ i, i ∈ readyB L 0 ops L → unl (setB L i) + 1 = unl L := fun i hi => by
      have := unl_ready (mem_readyB.1 hi)
      rw [hset] at this
      simpa using this
    obtain ⟨p1, p2, p3, p4⟩ := pick_spec (ti := ti) (ops := ops) (T := T) (c := c) (Ms := Ms) (readyB L 0 ops L)
    simp only [vcD] at hv
    split at hv
    · rename_i i d s hp
      obtain ⟨hmem, o, ho, hg, hpv, hod⟩ := p1 i d s hp
      have hu := hunl i hmem
      have hmem' := mem_readyB.1 hmem
      obtain ⟨k', rfl⟩ : ∃ k', k = k' + 1 := ⟨k - 1, by omega⟩
      have hval : ∀ w2, WD E A0 n0 B0 Ms Fs w2 → OKV E A n c w2 ((execOp a.eval o).run E.P w2) s := fun w2 h2 =>
        pureV_sound hti (fun k o v hv => by
          obtain ⟨_, g1, g2⟩ := (hloc w2 h2).mem k o v hv
          exact ⟨g1, SV.small_more g2 hI.hn⟩) (hT w2 h2) hpv
      have hy : YieldsIf E.P ops.toArray (fun w => WD E A0 n0 B0 Ms Fs w) o (s.den A) a := .inl ⟨guardSt_go hTw hg o rfl, fun w2 h2 => (hval w2 h2).1⟩
      refine wpAnyH_take (by simpa using ho) hns (free_of_apart hap hmem') (by simpa using hmem') (fun c a w h => h) hy hS ?_
      rw [hset]
      split at hv
      · rename_i d
        split at hv
        · rename_i hdn
          rw [hod]
          exact vcD_sound hti hs hns hap f _ _ n c B M F A _ w k' hv hI (fun w2 h2 => (hT w2 h2).put (by simpa using hdn) (hval w2 h2).2) (by omega)
        · exact hv.elim
      · rw [hod]
        exact vcD_sound hti hs hns hap f _ _ n c B M F A _ w k' hv hI hT (by omega)
    · rename_i i d hp
      obtain ⟨hmem, o, ho, hg, hod⟩ := p2 i d hp
      have hu := hunl i hmem
      have hmem' := mem_readyB.1 hmem
      obtain ⟨k', rfl⟩ : ∃ k', k = k' + 1 := ⟨k - 1, by omega⟩
      have hy : YieldsIf E.P ops.toArray (fun w => WD E A0 n0 B0 Ms Fs w) o undef a := .inr ⟨guardSt_no hTw hg o rfl, rfl⟩
      refine wpAnyH_take (by simpa using ho) hns (free_of_apart hap hmem') (by simpa using hmem') (fun c a w h => h) hy hS ?_
      rw [hset]
      split at hv
      · rename_i d
        split at hv
        · rename_i hdn
          rw [hod]
          exact vcD_sound hti hs hns hap f _ _ n c B M F A _ w k' hv hI (fun w2 h2 => (hT w2 h2).put (v := .v undef) (by simpa using hdn) trivial) (by omega)
        · exact hv.elim
      · rw [hod]
        exact vcD_sound hti hs hns hap f _ _ n c B M F A _ w k' hv hI hT (by omega)
    · rename_i t b hp
      obtain ⟨o, hg⟩ := p3 t b hp
      have hl := guardSt_unk hTw hg
      cases b with
      | true => exact vcD_sound hti hs hns hap f _ _ n c B M F A _ w k (hv.t rfl) hI (fun w2 h2 => (hT w2 h2).lit hl) hk
      | false => exact vcD_sound hti hs hns hap f _ _ n c B M F A _ w k (hv.f rfl) hI (fun w2 h2 => (hT w2 h2).lit hl) hk
    · rename_i i o hp
      obtain ⟨hmem, ho, hg⟩ := p4 i o hp
      have hu := hunl i hmem
      have hmem' := mem_readyB.1 hmem
      obtain ⟨k', rfl⟩ : ∃ k', k = k' + 1 := ⟨k - 1, by omega⟩
      obtain ⟨s, h1, d, hd, hv⟩ := hv.out A
      have hy : YieldsIf E.P ops.toArray (fun w => WD E A0 n0 B0 Ms Fs w) o (s.den A) a := .inl ⟨guardSt_go hTw hg o rfl, fun w2 h2 => (h1 a w2 (hloc w2 h2) (hT w2 h2)).1⟩
      refine wpAnyH_take (by simpa using ho) hns (free_of_apart hap hmem') (by simpa using hmem') (fun c a w h => h) hy hS ?_
      rw [hd.1, hset]
      exact vcD_sound hti hs hns hap f _ _ n c B M F A _ w k' hv hI (fun w2 h2 => (hT w2 h2).put hd.lt (h1 a w2 (hloc w2 h2) (hT w2 h2)).2) (by omega)
    · split at hv
      · rename_i hr
        refine wpAnyH_done (List.eq_nil_iff_forall_not_mem.2 fun i hi => ?_) ⟨_, ⟨A, hI.hw, hTw⟩, hv⟩ k
        rw [← mem_readyB, hr] at hi
        cases hi
      · rename_i i0 r hr
        have hmem0 : i0 ∈ readyB L 0 ops L := by rw [hr]; simp
        have hu := hunl i0 hmem0
        obtain ⟨k', rfl⟩ : ∃ k', k = k' + 1 := ⟨k - 1, by omega⟩
        refine wpAnyH_all rfl (fun e => by have := mem_readyB.1 hmem0; rw [e] at this; cases this) fun i hi => ?_
        have hmem := mem_readyB.2 hi
        have hvi := allR_mem hv i (by rw [← hr]; exact hmem)
        have hui := hunl i hmem
        cases ho : nth ops i with
        | none => rw [ho] at hvi; exact hvi.elim
        | some o =>
          rw [ho] at hvi
          simp only at hvi
          rw [nth_eq] at ho
          split at hvi
          · rename_i hg
            unfold wpOp
            simp only [show ops.toArray[i]? = some o by simpa using ho, guardSt_go hTw hg o rfl, if_true]
            refine .inl (effD_sound hti hvi hI hs hTw ?_)
            intro A' T' n' c' B' M' F' a' w' hI' hT' hn
            rw [hset]
            exact ⟨hI'.start hs, vcD_sound hti hs hns hap f _ _ n' c' B' M' F' A' a' w' k' hn hI' (fun w2 _ => hT' w2) (by omega)⟩
          · exact hvi.elim

/-- Facts out of a state's, each by its number there. -/
def FK (F : List Fct) : List Nat → List Fct → Prop
  | [], [] => True
  | i :: ix, f :: r => F[i]? = some f ∧ FK F ix r
  | _, _ => False

theorem FK.fw {F : List Fct} : ∀ {ix : List Nat} {Fs : List Fct}, FK F ix Fs → FW F ix Fs
  | [], [], _ => trivial
  | [], _ :: _, h => h.elim
  | _ :: _, [], h => h.elim
  | _ :: _, _ :: _, h => ⟨.inl ⟨_, h.1, rfl⟩, FK.fw h.2⟩

theorem FK.keep {F : List Fct} : ∀ {ix : List Nat} {Fs : List Fct}, FK F ix Fs → keepF Fs F
  | [], [], _ => fun f hf => by cases hf
  | [], _ :: _, h => h.elim
  | _ :: _, [], h => h.elim
  | _ :: _, _ :: _, h => fun f hf => by
    rcases List.mem_cons.1 hf with rfl | hf
    · exact List.mem_of_getElem? h.1
    · exact FK.keep h.2 f hf

theorem unl_replicate : ∀ n : Nat, unl (List.replicate n false) = n
  | 0 => rfl
  | n + 1 => by simp [List.replicate_succ, unl, unl_replicate n]

/-- THE BEGINNING OF A REGION THAT DRAWS: Ms: the cells that nobody in the region writes and that it reads; ix: the facts that stand through it. -/
theorem draw_start {id : Nat} {ops : Array Oper} {T : List (Nat × SV)} {n c : Nat} {B : List (Nat × TypeId × Nat)} {M : List ((Nat × Nat) × SV)} {F : List Fct} {K : St → Prop} (hti : ∀ t, TIok E.P t (ti t)) (hm : E.P.follows .mixedOrders = true) (hns : Region.noSelect ops = true) (hap : apartAll ops = true)
    (fuel : Nat) (Ms : List ((Nat × Nat) × SV)) (ix : List Nat) (Fs : List Fct) (hM : MW M n Ms) (hMB : MBW B Ms) (hF : FK F ix Fs) (hix : nodupB ix = true)
    (hv : vcD E ti ops.toList n B Ms Fs K fuel (falses ops.toList) (.mk T n (c + 1) B M F)) :
    DrawW (∀ a w, Den E (.mk T n c B M F) a w → (Code.region id ops true).wp E.P (postD E K) a w) := by
  refine ⟨fun a w hd => ?_⟩
  obtain ⟨A, hW, hT⟩ := hd
  have hdr : Ext w { w with drawn := w.drawn + 1 } := ⟨rfl, rfl, rfl, Nat.le_refl _, fun _ _ _ => rfl⟩
  have hW' := hW.growExt hdr
  have hs : WD E A n B Ms Fs { w with drawn := w.drawn + 1 } := by
    have hp := hW'.pick ix hF.fw hix
    refine ⟨hp.key, hp.inj, fun k o v hv => ?_, hp.a0, hp.n0, hp.ext, hp.fct, hp.dj⟩
    obtain ⟨h1, h2⟩ := MW_all hM k o v hv
    exact ⟨MBW_all hMB k o v hv, (hp.mem k o v h1).2.1, h2⟩
  refine wp_region_held (S := fun w => WD E A n B Ms Fs w) hm ?_
  have := vcD_sound hti (ops := ops.toList) (K := K) hs (by simpa using hns) (by simpa using hap) fuel (falses ops.toList) T n (c + 1) B M F A a { w with drawn := w.drawn + 1 } ops.size hv
    ⟨fun _ _ => rfl, Nat.le_refl _, fun _ h => h, fun k o v hv => (MW_all hM k o v hv).1, hF.keep, hW'⟩ (fun w2 _ => hT.step w2) (by simp [falses_eq, unl_replicate])
  rw [Array.toArray_toList, falses_eq] at this
  simp only [Array.length_toList, List.toArray_replicate] at this
  exact this

end

section

variable {E : Env} {ti : Nat → TI} {A : Nat → Nat} {T : List (Nat × SV)} {n c : Nat} {B : List (Nat × TypeId × Nat)} {M Ms : List ((Nat × Nat) × SV)} {F Fs : List Fct} {o : Oper} {next : St → Prop}

/-- A call, in a region that draws. -/
theorem d_call (R : Value → List Fct → Prop) {k : Call} {fo : Operand} {g : FuncId} {cap : List (Nat × Nat)} {l : List SV} {d : Nat} (hc : callable E.P g = true)
    (hop : o.op = .call k) (hk : k.callee = .value fo) (hf : evalO T fo = some (.f g cap)) (ha : evalOs T k.args.toList = some l) (hd : Dst E o d)
    (hcall : ∀ A w, WD E A n B M F w → Calls E.P g ((l.map (SV.den A)) ++ cap.map (fun x => ptr A x.1 x.2)).toArray w (Ret w R))
    (hnext : ∀ v L, R v L → next (.mk ((d, .v v) :: T) n (c + 1) B M (L ++ F))) :
    OpW (opD E o Ms Fs next T n c B M F) := by
  refine ⟨opD0.up fun hkf A a w hW hT => ?_⟩
  have hargs : (k.args.map a.eval).toList = l.map (SV.den A) := by rw [Array.toList_map]; exact evalOs_sound hT ha
  have hfv := (evalO_sound hT hf).1
  have hr : (execOp a.eval o).run E.P w = .ok (.enter g ((l.map (SV.den A)) ++ cap.map (fun x => ptr A x.1 x.2)).toArray) w := by
    have hcat : (k.args.map a.eval) ++ (cap.map (fun x => ptr A x.1 x.2)).toArray = ((l.map (SV.den A)) ++ cap.map (fun x => ptr A x.1 x.2)).toArray := by
      apply Array.ext'; rw [Array.toList_append, hargs]
    simp only [execOp, hop, resolve, hk, Sem.run_bind, hfv, SV.den, Deferred.ofValue, Sem.run_pure, Result.andThen_ok, Array.empty_append, invoke, hcat, run_callFunc hc]
  unfold Oper.wp
  rw [hr, Oper.upon_enter]
  refine (hcall A w hW).mono ?_
  rintro e w' ⟨v, L, rfl, he, hL, hR⟩
  refine ⟨_, _, _, hW.learn he hL, fun w2 => ?_, fun f hf => List.mem_append_right _ (hkf f hf), hnext v L hR⟩
  rw [hd.1]
  exact (hT.step w2).put (v := .v v) hd.lt trivial

/-- append, in a region that draws. -/
theorem d_app {α : Type} {enc : α → List Value} {sz : Nat} (he : Enc enc sz) (k1 : Nat) {xs ys : List α} {i j : Sl} {k : Call} {t e : TypeId} {x y : Operand} {d : Nat} {agg : Bool} {size : Nat} {zero : List Value} {fs : List (Nat × Nat × Bool)} {ik : Option IntKind} {kk bytes : Nat} {agg2 : Bool} {zero2 : List Value} {fs2 : List (Nat × Nat × Bool)} {el2 : Option TypeId} {ik2 : Option IntKind} {kk2 bytes2 : Nat}
    (hti : ∀ t, TIok E.P t (ti t)) (hop : o.op = .call k) (hk : k.callee = .builtin .append) (ha : k.args.toList = [x, y]) (hty : k.argTypes.toList = [t, t])
    (hx : evalO T x = some (.v (i.val xs.length))) (hy : evalO T y = some (.v (j.val ys.length)))
    (ht : ti t = .mk agg size zero fs (some e) ik kk bytes) (hte : ti e = .mk agg2 sz zero2 fs2 el2 ik2 kk2 bytes2) (hz2 : listLen zero2 = sz) (hsz0 : 0 < sz) (hd : Dst E o d)
    (hF1 : F[k1]? = some (own i e enc sz xs)) (hF2 : ∀ w, (∀ f ∈ F, f.P w) → RdS w j sz (cells enc ys) ys.length)
    (hb : (xs.length + ys.length) * bytes2 ≤ 140737488355328) (hm : xs.length + ys.length ≤ maxLen)
    (hkeep : keepF Fs F → keepF Fs (F.eraseIdx k1)) (hnext : ∀ y : Sl, next (.mk ((d, .v (y.val (xs ++ ys).length)) :: T) n (c + 1) B M (own y e enc sz (xs ++ ys) :: F.eraseIdx k1))) :
    OpW (opD E o Ms Fs next T n c B M F) := by
  refine ⟨opD0.up fun hkf A a w hW hT => ?_⟩
  have htt := hti t
  rw [ht] at htt
  obtain ⟨ii, dd, z, e1, e2, e3, e4, e5, e6, e7, e8, e9, e10, e11⟩ := tiSum_parts htt
  have htt2 := hti e
  rw [hte] at htt2
  obtain ⟨ii2, dd2, z2, g1, g2, g3, g4, g5, g6, g7, g8, g9, g10, g11⟩ := tiSum_parts htt2
  have hdd := el_slice e8
  have hown := (hW.nth k1 hF1).1
  have hrd := hF2 w (fun f hf => (hW.fct f hf).1)
  have hz : z2.cells.size = sz := by rw [← hz2, listLen_eq, ← g6]; simp
  obtain ⟨y', w', h1, h2, h3, h4⟩ := run_app (P := E.P) w o.type (by rw [e2, hdd]) g1 g5 g4 hz hsz0 hown hrd (cells_one he ys) (by rw [g11]; exact hb) hm
  have hr : (execOp a.eval o).run E.P w = .ok (.value (y'.val (xs.length + ys.length))) w' := by
    have hargs : k.args = #[x, y] := by apply Array.ext'; simpa using ha
    have htys : k.argTypes = #[t, t] := by apply Array.ext'; simpa using hty
    have hx' : a.eval x = i.val xs.length := (evalO_sound hT hx).1
    have hy' : a.eval y = j.val ys.length := (evalO_sound hT hy).1
    simp only [execOp, hop, resolve, hk, hargs, htys, Sem.run_bind, Sem.run_pure, Result.andThen_ok, invoke, builtin, List.map_toArray, List.map_cons, List.map_nil, hx', hy', h1]
  refine upon_of_value hr ?_
  rw [hd.1]
  have hn := hnext y'
  rw [List.length_append] at hn
  refine ⟨_, _, _, ?_, fun w2 => (hT.step w2).put (v := .v (y'.val (xs.length + ys.length))) hd.lt trivial, fun f hf => List.mem_cons_of_mem _ (hkeep hkf f hf), hn⟩
  have := hW.turn hF1 h3 (ds := cells enc xs ++ cells enc ys) h2 h4
  rw [← cells_append] at this
  show WD E A n B M (fOwn false y' e sz (cells enc (xs ++ ys)) (xs ++ ys).length :: F.eraseIdx k1) w'
  rw [List.length_append]
  exact this

/-- The same, the own slice found by search. -/
theorem d_appK {α : Type} {enc : α → List Value} {sz : Nat} (he : Enc enc sz) {k1 : Nat} {xs ys : List α} {i j : Sl} {k : Call} {t e : TypeId} {x y : Operand} {d : Nat} {agg : Bool} {size : Nat} {zero : List Value} {fs : List (Nat × Nat × Bool)} {ik : Option IntKind} {kk bytes : Nat} {agg2 : Bool} {zero2 : List Value} {fs2 : List (Nat × Nat × Bool)} {el2 : Option TypeId} {ik2 : Option IntKind} {kk2 bytes2 : Nat}
    (hti : ∀ t, TIok E.P t (ti t)) (hop : o.op = .call k) (hk : k.callee = .builtin .append) (ha : k.args.toList = [x, y]) (hty : k.argTypes.toList = [t, t])
    (hx : evalO T x = some (.v (i.val xs.length))) (hy : evalO T y = some (.v (j.val ys.length)))
    (ht : ti t = .mk agg size zero fs (some e) ik kk bytes) (hte : ti e = .mk agg2 sz zero2 fs2 el2 ik2 kk2 bytes2) (hz2 : listLen zero2 = sz) (hsz0 : 0 < sz) (hd : Dst E o d)
    (hF1 : IsAt F k1 (own i e enc sz xs)) (hF2 : ∀ w, (∀ f ∈ F, f.P w) → RdS w j sz (cells enc ys) ys.length)
    (hb : (xs.length + ys.length) * bytes2 ≤ 140737488355328) (hm : xs.length + ys.length ≤ maxLen)
    (hkeep : keepF Fs F → keepF Fs (F.eraseIdx k1)) (hnext : ∀ y : Sl, next (.mk ((d, .v (y.val (xs ++ ys).length)) :: T) n (c + 1) B M (own y e enc sz (xs ++ ys) :: F.eraseIdx k1))) :
    OpW (opD E o Ms Fs next T n c B M F) :=
  d_app he k1 hti hop hk ha hty hx hy ht hte hz2 hsz0 hd hF1.h hF2 hb hm hkeep hnext

/-- An index, in a region that draws. -/
theorem d_idx {α : Type} {enc : α → List Value} {sz : Nat} (he : Enc enc sz) {t e : TypeId} {x ix : Operand} {i : Sl} {xs : List α} {kd : IntKind} {m : Int} {d : Nat} {agg : Bool} {size : Nat} {zero : List Value} {fs : List (Nat × Nat × Bool)} {ik : Option IntKind} {kk bytes : Nat} {agg2 : Bool} {zero2 : List Value} {fs2 : List (Nat × Nat × Bool)} {el2 : Option TypeId} {ik2 : Option IntKind} {kk2 bytes2 : Nat}
    (hti : ∀ t, TIok E.P t (ti t)) (hop : o.op = .indexAddr t x ix) (hx : evalO T x = some (.v (i.val xs.length))) (hix : evalO T ix = some (.v (.int kd m)))
    (ht : ti t = .mk agg size zero fs (some e) ik kk bytes) (hte : ti e = .mk agg2 sz zero2 fs2 el2 ik2 kk2 bytes2) (hd : Dst E o d)
    (hF : ∀ w, (∀ f ∈ Fs, f.P w) → RdS w i sz (cells enc xs) xs.length) (j : Nat) (hj : m = (j : Int)) (hlt : j < xs.length) {n0 : Nat} {B0 : List (Nat × TypeId × Nat)}
    (hnext : ∀ ad : Addr, next (.mk ((d, .e c ad (enc xs[j]) 0) :: T) n c B M F)) :
    OpW (∀ A, ∃ s : SV, (∀ a w, WD E A n0 B0 Ms Fs w → TD E A T n c a w → (execOp a.eval o).run E.P w = .ok (.value (s.den A)) w ∧ s.okT n c w) ∧ (∃ d, Dst E o d ∧ next (.mk ((d, s) :: T) n c B M F))) := by
  refine ⟨fun A => ?_⟩
  by_cases hex : ∃ ad, i.a = some ad
  · obtain ⟨ad, had⟩ := hex
    refine ⟨.e c (ad.add (j * sz)) (enc xs[j]) 0, fun a w hW hT => ?_, d, hd, hnext _⟩
    obtain ⟨h1, h2, h3, h4⟩ := hF w (fun f hf => (hW.fct f hf).1)
    obtain ⟨ad', had', hcs⟩ := h4 (by omega)
    rw [had] at had'
    injection had' with had'
    subst had'
    have htt := hti t
    rw [ht] at htt
    obtain ⟨ii, dd, z, e1, e2, e3, e4, e5, e6, e7, e8, e9, e10, e11⟩ := tiSum_parts htt
    have htt2 := hti e
    rw [hte] at htt2
    obtain ⟨ii2, dd2, z2, k1, k2, k3, k4, k5, k6, k7, k8, k9, k10, k11⟩ := tiSum_parts htt2
    have hdd := el_slice e8
    subst hj
    refine ⟨?_, Nat.le_refl _, fun _ q u hu => by
      rw [addr_add_add]
      exact hcs _ u (cells_at he hlt hu)⟩
    have hx' : a.eval x = .slice (some ad) xs.length i.c := by rw [(evalO_sound hT hx).1]; simp [SV.den, Sl.val, had]
    have hix' : a.eval ix = .int kd j := (evalO_sound hT hix).1
    simp [execOp, hop, Instr.indexAt, hx', hix', asIntOf, underlying, e2, hdd, run_sizeOf k1, k4, hlt, SV.den]
    simp [Addr.add]
  · refine ⟨.e c ⟨0, 0, none⟩ (enc xs[j]) 0, fun a w hW hT => ?_, d, hd, hnext _⟩
    obtain ⟨h1, h2, h3, h4⟩ := hF w (fun f hf => (hW.fct f hf).1)
    obtain ⟨ad', had', hcs⟩ := h4 (by omega)
    exact absurd ⟨ad', had'⟩ hex

end

end Go.Sx

namespace Go.Proofs.YtchkcjeeknfchaaGreatDoor

open Go Go.Sx Go.RowKit

def isThread (t : Int) : Bool := decide (0 ≤ t) && decide (t < 6)

def isValue (t : Int) : Bool := decide (0 ≤ t) && decide (t ≤ 99)

structure Letter where
  t : Int
  v : Int
  deriving DecidableEq

def cLet (l : Letter) : List Value := [.int .i64 l.t, .int .i64 l.v]

theorem encLet : Enc cLet 2 := ⟨fun _ => rfl, fun _ u hu => by simp [cLet] at hu; rcases hu with rfl | rfl <;> rfl⟩

structure Chan where
  room : Int
  items : List Int
  senders : List Letter
  getters : List Int
  closed : Bool
  deriving DecidableEq

def chanV (m : Chan) (i s g : Sl) : Value := .agg #[.int .i64 m.room, i.val m.items.length, s.val m.senders.length, g.val m.getters.length, .bool m.closed]

def Chan.small (m : Chan) : Prop := m.items.length ≤ 4294967296 ∧ m.senders.length ≤ 4294967296 ∧ m.getters.length ≤ 4294967296

def Chan.threads (m : Chan) : List Int := m.senders.map (·.t) ++ m.getters

set_option maxRecDepth 100000 in
theorem isThread_c (t : Int) (w : World) : Calls Tryz.prog 87 #[.int .i64 t] w (Ret w fun v L => v = .bool (isThread t) ∧ L = []) := by
  refine calls1 Tryz.func87 rfl tabOk w _ rfl _ rfl [] trivial trivial _ (by decide) ?_
  refine CaseB.mk (fun h => ?_) (fun h => ?_)
  all_goals
    refine retw [] ⟨?_, rfl⟩ trivial rfl trivial (fun _ => rfl)
    simp [isThread] at h ⊢
    omega

set_option maxRecDepth 100000 in
theorem isValue_c (t : Int) (w : World) : Calls Tryz.prog 47 #[.int .i64 t] w (Ret w fun v L => v = .bool (isValue t) ∧ L = []) := by
  refine calls1 Tryz.func47 rfl tabOk w _ rfl _ rfl [] trivial trivial _ (by decide) ?_
  refine CaseB.mk (fun h => ?_) (fun h => ?_)
  all_goals
    refine retw [] ⟨?_, rfl⟩ trivial rfl trivial (fun _ => rfl)
    simp [isValue] at h ⊢
    omega

theorem wrapN (k n : Nat) (h : k < n) (hn : n ≤ 4294967296) : IntKind.i64.wrap ((k : Int) + 1) = ((k + 1 : Nat) : Int) := by
  rw [IntKind.wrap_i64]; omega

set_option maxRecDepth 100000 in
theorem threads_c (m : Chan) (i s g : Sl) (w : World) (h : At w [slo i cInt 1 m.items, slo s cLet 2 m.senders, slo g cInt 1 m.getters]) (hb : m.small) :
    Calls Tryz.prog 86 #[chanV m i s g] w (Ret w fun v L => ∃ y : Sl, v = y.val m.threads.length ∧ L = [own y 3 cInt 1 m.threads]) := by
  obtain ⟨b1, b2, b3⟩ := hb
  refine calls1 Tryz.func86 rfl tabOk w _ rfl _ rfl _ h ⟨rfl, rfl, rfl, rfl, rfl, rfl, trivial⟩ _ (by decide) ?_
  refine LoopW.mk ⟨{ p : Nat × Sl // p.1 ≤ m.senders.length },
    fun p => .mk [(1, .p 0 0), (3, .v (p.1.2.val ((m.senders.take p.1.1).map Letter.t).length)), (7, .v (s.val m.senders.length)), (8, .v (.int .i64 m.senders.length)), (9, .v (.int .i64 p.1.1))] 1 0 [(0, 95, 5)] [((0, 3), .v (g.val m.getters.length))] [own p.1.2 3 cInt 1 ((m.senders.take p.1.1).map Letter.t), slo s cLet 2 m.senders, slo g cInt 1 m.getters],
    fun p => m.senders.length - p.1.1, ⟨(0, ⟨none, 0⟩), Nat.zero_le _⟩, ?_, ?_⟩
  · refine weak_mk [99, 1, 2] ?_ ?_ ?_ ?_ ?_ rfl rfl
    · repeat (first | exact trivial | refine ⟨⟨_, rfl, (by first | exact .of rfl | exact .lit rfl | exact .of (by first | (rfl)) | exact .lit (by first | (rfl))), (by first | exact trivial | exact Nat.le_of_ble_eq_true rfl | exact small1 rfl)⟩, ?_⟩)
    · repeat (first | exact trivial | refine ⟨⟨(by first | exact .head _ | exact .tail _ (.head _) | exact .tail _ (.tail _ (.head _)) | exact .tail _ (.tail _ (.tail _ (.head _))) | exact .tail _ (.tail _ (.tail _ (.tail _ (.head _)))) | exact .tail _ (.tail _ (.tail _ (.tail _ (.tail _ (.head _))))) | exact .tail _ (.tail _ (.tail _ (.tail _ (.tail _ (.tail _ (.head _)))))) | exact .tail _ (.tail _ (.tail _ (.tail _ (.tail _ (.tail _ (.tail _ (.head _))))))) | exact .tail _ (.tail _ (.tail _ (.tail _ (.tail _ (.tail _ (.tail _ (.tail _ (.head _)))))))) | exact .tail _ (.tail _ (.tail _ (.tail _ (.tail _ (.tail _ (.tail _ (.tail _ (.tail _ (.head _)))))))))), Nat.le_of_ble_eq_true rfl⟩, ?_⟩)
    · repeat (first | exact trivial | refine ⟨⟨_, rfl, (by first | exact .of rfl | exact .lit rfl | exact .of (by first | (rfl)) | exact .lit (by first | (rfl))), (by first | exact trivial | exact Nat.le_of_ble_eq_true rfl | exact small1 rfl)⟩, ?_⟩)
    · repeat (first | exact trivial | refine ⟨⟨_, rfl⟩, ?_⟩)
    · repeat (first | exact trivial | refine ⟨.inl ⟨_, rfl, (by first | rfl | (rfl))⟩, ?_⟩ | refine ⟨.inr ⟨Nat.le_of_ble_eq_true rfl, rfl, rfl, rfl, rfl⟩, ?_⟩)
  · rintro ⟨⟨k, out⟩, hk⟩
    simp only at hk
    refine CaseB.mk (fun h => ?_) (fun h => ?_)
    · have hlt : k < m.senders.length := by simpa using h
      have hT : (m.senders.take (k + 1)).map Letter.t = (m.senders.take k).map Letter.t ++ [m.senders[k].t] := by
        rw [List.take_succ_eq_append_getElem hlt, List.map_append]; rfl
      refine stop_idx encLet tabOk rfl rfl rfl rfl rfl ⟨rfl, rfl⟩ (by first | exact rdAt 0 rfl | exact rdOwnAt 0 rfl | exact rdAt 1 rfl | exact rdOwnAt 1 rfl | exact rdAt 2 rfl | exact rdOwnAt 2 rfl | exact rdAt 3 rfl | exact rdOwnAt 3 rfl | exact rdAt 4 rfl | exact rdOwnAt 4 rfl | exact rdAt 5 rfl | exact rdOwnAt 5 rfl | exact rdAt 6 rfl | exact rdOwnAt 6 rfl | exact rdAt 7 rfl | exact rdOwnAt 7 rfl | exact rdAt 8 rfl | exact rdOwnAt 8 rfl | exact rdAt 9 rfl | exact rdOwnAt 9 rfl | exact rdAt 10 rfl | exact rdOwnAt 10 rfl | exact rdAt 11 rfl | exact rdOwnAt 11 rfl | exact rdAt 12 rfl | exact rdOwnAt 12 rfl | exact rdAt 13 rfl | exact rdOwnAt 13 rfl | exact rdAt 14 rfl | exact rdOwnAt 14 rfl | exact rdAt 15 rfl | exact rdOwnAt 15 rfl | exact rdAt 16 rfl | exact rdOwnAt 16 rfl | exact rdAt 17 rfl | exact rdOwnAt 17 rfl | exact rdAt 18 rfl | exact rdOwnAt 18 rfl | exact rdAt 19 rfl | exact rdOwnAt 19 rfl | exact rdAt 20 rfl | exact rdOwnAt 20 rfl | exact rdAt 21 rfl | exact rdOwnAt 21 rfl | exact rdAt 22 rfl | exact rdOwnAt 22 rfl | exact rdAt 23 rfl | exact rdOwnAt 23 rfl) k rfl (by first | omega | (simp; done) | (simp; omega) | (unfold maxLen; omega) | (unfold maxLen; simp; done) | (unfold maxLen; simp; omega)) (fun ad => ?_)
      refine AllSl.mk fun y => ?_
      refine stop_app encInt 1 tabOk (ys := [m.senders[k].t]) rfl rfl rfl rfl rfl rfl rfl rfl rfl (by decide) ⟨rfl, rfl⟩ rfl (by first | exact rdAt 0 rfl | exact rdOwnAt 0 rfl | exact rdAt 1 rfl | exact rdOwnAt 1 rfl | exact rdAt 2 rfl | exact rdOwnAt 2 rfl | exact rdAt 3 rfl | exact rdOwnAt 3 rfl | exact rdAt 4 rfl | exact rdOwnAt 4 rfl | exact rdAt 5 rfl | exact rdOwnAt 5 rfl | exact rdAt 6 rfl | exact rdOwnAt 6 rfl | exact rdAt 7 rfl | exact rdOwnAt 7 rfl | exact rdAt 8 rfl | exact rdOwnAt 8 rfl | exact rdAt 9 rfl | exact rdOwnAt 9 rfl | exact rdAt 10 rfl | exact rdOwnAt 10 rfl | exact rdAt 11 rfl | exact rdOwnAt 11 rfl | exact rdAt 12 rfl | exact rdOwnAt 12 rfl | exact rdAt 13 rfl | exact rdOwnAt 13 rfl | exact rdAt 14 rfl | exact rdOwnAt 14 rfl | exact rdAt 15 rfl | exact rdOwnAt 15 rfl | exact rdAt 16 rfl | exact rdOwnAt 16 rfl | exact rdAt 17 rfl | exact rdOwnAt 17 rfl | exact rdAt 18 rfl | exact rdOwnAt 18 rfl | exact rdAt 19 rfl | exact rdOwnAt 19 rfl | exact rdAt 20 rfl | exact rdOwnAt 20 rfl | exact rdAt 21 rfl | exact rdOwnAt 21 rfl | exact rdAt 22 rfl | exact rdOwnAt 22 rfl | exact rdAt 23 rfl | exact rdOwnAt 23 rfl) (by first | omega | (simp; done) | (simp; omega) | (unfold maxLen; omega) | (unfold maxLen; simp; done) | (unfold maxLen; simp; omega)) (by first | omega | (simp; done) | (simp; omega) | (unfold maxLen; omega) | (unfold maxLen; simp; done) | (unfold maxLen; simp; omega)) (fun z => ?_)
      refine ⟨⟨(k + 1, z), by omega⟩, ?_, by simp; omega⟩
      have hw := wrapN k _ hlt b2
      refine weak_mk [0, 2, 3] ?_ ?_ ?_ ?_ ?_ rfl rfl
      · repeat (first | exact trivial | refine ⟨⟨_, rfl, (by first | exact .of rfl | exact .lit rfl | exact .of (by first | ((first | (rw [hT]; done) | (simp only; done) | exact congrArg (fun z => SV.v (Value.int .i64 z)) hw))) | exact .lit (by first | ((first | (rw [hT]; done) | (simp only [hT]; done) | exact congrArg (fun z => SV.v (Value.int .i64 z)) hw)))), (by first | exact trivial | exact Nat.le_of_ble_eq_true rfl | exact small1 rfl)⟩, ?_⟩)
      · repeat (first | exact trivial | refine ⟨⟨(by first | exact .head _ | exact .tail _ (.head _) | exact .tail _ (.tail _ (.head _)) | exact .tail _ (.tail _ (.tail _ (.head _))) | exact .tail _ (.tail _ (.tail _ (.tail _ (.head _)))) | exact .tail _ (.tail _ (.tail _ (.tail _ (.tail _ (.head _))))) | exact .tail _ (.tail _ (.tail _ (.tail _ (.tail _ (.tail _ (.head _)))))) | exact .tail _ (.tail _ (.tail _ (.tail _ (.tail _ (.tail _ (.tail _ (.head _))))))) | exact .tail _ (.tail _ (.tail _ (.tail _ (.tail _ (.tail _ (.tail _ (.tail _ (.head _)))))))) | exact .tail _ (.tail _ (.tail _ (.tail _ (.tail _ (.tail _ (.tail _ (.tail _ (.tail _ (.head _)))))))))), Nat.le_of_ble_eq_true rfl⟩, ?_⟩)
      · repeat (first | exact trivial | refine ⟨⟨_, rfl, (by first | exact .of rfl | exact .lit rfl | exact .of (by first | ((first | (rw [hT]; done) | (simp only [hT]; done) | exact congrArg (fun z => SV.v (Value.int .i64 z)) hw))) | exact .lit (by first | ((first | (rw [hT]; done) | (simp only [hT]; done) | exact congrArg (fun z => SV.v (Value.int .i64 z)) hw)))), (by first | exact trivial | exact Nat.le_of_ble_eq_true rfl | exact small1 rfl)⟩, ?_⟩)
      · repeat (first | exact trivial | refine ⟨⟨_, rfl⟩, ?_⟩)
      · repeat (first | exact trivial | refine ⟨.inl ⟨_, rfl, (by first | rfl | ((first | (rw [hT]; done) | (simp only [hT]; done) | exact congrArg (fun z => SV.v (Value.int .i64 z)) hw)))⟩, ?_⟩ | refine ⟨.inr ⟨Nat.le_of_ble_eq_true rfl, rfl, rfl, rfl, rfl⟩, ?_⟩)
    · have hge : m.senders.length ≤ k := by simpa using h
      have hT : (m.senders.take k).map Letter.t = m.senders.map Letter.t := by rw [List.take_of_length_le hge]
      refine stop_appK encInt tabOk  rfl rfl rfl rfl rfl rfl rfl rfl rfl (by decide) ⟨rfl, rfl⟩ (by first | exact isAt 0 rfl | exact isAt 1 rfl | exact isAt 2 rfl | exact isAt 3 rfl | exact isAt 4 rfl | exact isAt 5 rfl | exact isAt 6 rfl | exact isAt 7 rfl | exact isAt 8 rfl | exact isAt 9 rfl | exact isAt 10 rfl | exact isAt 11 rfl) (by first | exact rdAt 0 rfl | exact rdOwnAt 0 rfl | exact rdAt 1 rfl | exact rdOwnAt 1 rfl | exact rdAt 2 rfl | exact rdOwnAt 2 rfl | exact rdAt 3 rfl | exact rdOwnAt 3 rfl | exact rdAt 4 rfl | exact rdOwnAt 4 rfl | exact rdAt 5 rfl | exact rdOwnAt 5 rfl | exact rdAt 6 rfl | exact rdOwnAt 6 rfl | exact rdAt 7 rfl | exact rdOwnAt 7 rfl | exact rdAt 8 rfl | exact rdOwnAt 8 rfl | exact rdAt 9 rfl | exact rdOwnAt 9 rfl | exact rdAt 10 rfl | exact rdOwnAt 10 rfl | exact rdAt 11 rfl | exact rdOwnAt 11 rfl | exact rdAt 12 rfl | exact rdOwnAt 12 rfl | exact rdAt 13 rfl | exact rdOwnAt 13 rfl | exact rdAt 14 rfl | exact rdOwnAt 14 rfl | exact rdAt 15 rfl | exact rdOwnAt 15 rfl | exact rdAt 16 rfl | exact rdOwnAt 16 rfl | exact rdAt 17 rfl | exact rdOwnAt 17 rfl | exact rdAt 18 rfl | exact rdOwnAt 18 rfl | exact rdAt 19 rfl | exact rdOwnAt 19 rfl | exact rdAt 20 rfl | exact rdOwnAt 20 rfl | exact rdAt 21 rfl | exact rdOwnAt 21 rfl | exact rdAt 22 rfl | exact rdOwnAt 22 rfl | exact rdAt 23 rfl | exact rdOwnAt 23 rfl) (by first | omega | (simp; done) | (simp; omega) | (unfold maxLen; omega) | (unfold maxLen; simp; done) | (unfold maxLen; simp; omega)) (by first | omega | (simp; done) | (simp; omega) | (unfold maxLen; omega) | (unfold maxLen; simp; done) | (unfold maxLen; simp; omega)) (fun z => ?_)
      exact retw [0] ⟨z, rfl, rfl⟩ ⟨.inl ⟨_, rfl, (by first | rfl | ((simp only [hT, Chan.threads])))⟩, trivial⟩ rfl ⟨rfl, trivial⟩ (fun _ => (by first | rfl | ((simp only [hT, Chan.threads, resV, SV.den]))))

end Go.Proofs.YtchkcjeeknfchaaGreatDoor

namespace Go.Proofs.YtchkcjeeknfchaaGreatDoor

open Go Go.Sx Go.RowKit

/-- Lists equal up to place k. -/
theorem take_eq_succ {α : Type} {xs ys : List α} {k : Nat} (h : xs.take k = ys.take k) (hx : k < xs.length) (hy : k < ys.length) : (xs[k] = ys[k] → xs.take (k + 1) = ys.take (k + 1)) ∧ (xs[k] ≠ ys[k] → xs ≠ ys) := by
  refine ⟨fun e => by rw [List.take_succ_eq_append_getElem hx, List.take_succ_eq_append_getElem hy, h, e], fun e he => ?_⟩
  subst he
  exact e rfl

end Go.Proofs.YtchkcjeeknfchaaGreatDoor

namespace Go.Sx

open Go Go.RowKit

/-- The slice from place l on. -/
def Sl.cut (i : Sl) (l sz : Nat) : Sl := ⟨if i.c = l then i.a else i.a.map (·.add (l * sz)), i.c - l⟩

theorem RdS.cut {w : World} {i : Sl} {sz n l h : Nat} {cs : List Value} (hr : RdS w i sz cs n) (h1 : l ≤ h) (h2 : h ≤ n) : RdS w (i.cut l sz) sz ((cs.drop (l * sz)).take ((h - l) * sz)) (h - l) := by
  obtain ⟨g1, g2, g3, g4⟩ := hr
  have e1 : (h - l) * sz ≤ n * sz - l * sz := by rw [← Nat.sub_mul]; exact Nat.mul_le_mul_right _ (by omega)
  refine ⟨by rw [List.length_take, List.length_drop, g1]; omega, by simp only [Sl.cut]; omega, by simp only [Sl.cut]; omega, fun h0 => ?_⟩
  obtain ⟨ad, had, hc⟩ := g4 (by omega)
  refine ⟨ad.add (l * sz), by simp only [Sl.cut]; rw [if_neg (by omega), had]; rfl, fun j u hu => ?_⟩
  rw [addr_add_add]
  refine hc _ u ?_
  rw [List.getElem?_take] at hu
  split at hu
  · rw [List.getElem?_drop] at hu; exact hu
  · cases hu

theorem cut_foot {i : Sl} {l sz n m b : Nat} (h : m ≤ n) (hf : (fSl true (i.cut l sz) sz [] m).foot b) : (fSl true i sz [] n).foot b := by
  obtain ⟨h0, ad, had, rfl⟩ := hf
  refine ⟨by omega, ?_⟩
  simp only [Sl.cut] at had
  split at had
  · exact ⟨ad, had, rfl⟩
  · cases hi : i.a with
    | none => rw [hi] at had; simp at had
    | some a0 => rw [hi] at had; simp at had; exact ⟨a0, rfl, by rw [← had, block_add]⟩

section

variable {α : Type} {enc : α → List Value} {sz : Nat}

theorem cells_cut (he : Enc enc sz) (xs : List α) (l h : Nat) : (((cells enc xs).drop (l * sz)).take ((h - l) * sz)) = cells enc ((xs.drop l).take (h - l)) := by
  rw [cells_take he, cells_drop he]

/-- A part of a slice, for a call. -/
theorem atCut (he : Enc enc sz) {w : World} {Q : Nat → Prop} {o : Bool} {i : Sl} {xs : List α} (l h : Nat) (h1 : l ≤ h) (h2 : h ≤ xs.length) {ys : List α} (hy : ys = (xs.drop l).take (h - l))
    (hr : (fSl o i sz (cells enc xs) xs.length).P w ∧ ∀ b, (fSl o i sz (cells enc xs) xs.length).foot b → Q b) :
    (fSl o (i.cut l sz) sz (cells enc ys) ys.length).P w ∧ ∀ b, (fSl o (i.cut l sz) sz (cells enc ys) ys.length).foot b → Q b := by
  have := (show RdS w i sz (cells enc xs) xs.length from hr.1).cut h1 h2
  rw [cells_cut he] at this
  subst hy
  have hl : ((xs.drop l).take (h - l)).length = h - l := by simp; omega
  refine ⟨?_, fun b hb => hr.2 b ?_⟩
  · show RdS w (i.cut l sz) sz _ _
    rw [hl]
    exact this
  · exact cut_foot (m := ((xs.drop l).take (h - l)).length) (n := xs.length) (by rw [hl]; omega) hb

end

def bndV (T : List (Nat × SV)) (d : Int) : Option Operand → Option Int
  | none => some d
  | some y => match evalO T y with
    | some (.v (.int _ m)) => some m
    | _ => none

section

variable {E : Env} {ti : Nat → TI} {A : Nat → Nat} {T : List (Nat × SV)} {n c : Nat} {B : List (Nat × TypeId × Nat)} {M : List ((Nat × Nat) × SV)} {F Fs : List Fct} {o : Oper} {next : St → Prop} {a : Act} {w : World}

theorem bndV_some (hT : TD E A T n c a w) {d : Int} {y : Operand} {m : Int} (h : bndV T d (some y) = some m) : ∃ kd, a.eval y = .int kd m := by
  simp only [bndV] at h
  split at h
  · rename_i k q hq
    simp at h; subst h
    exact ⟨k, (evalO_sound hT hq).1⟩
  · cases h

theorem run_cut {P : Program} {t e : TypeId} {ie : TypeInfo} (ht : P.underlying t = some (.slice e)) (hi : P.info? e = some ie) (i : Sl) (k l h : Nat) (lo hi' : Option Value) (hlo : (lo = none ∧ l = 0) ∨ ∃ kd, lo = some (.int kd (l : Int))) (hhi : (hi' = none ∧ h = k) ∨ ∃ kd, hi' = some (.int kd (h : Int))) (h1 : l ≤ h) (h2 : h ≤ k) (h3 : k ≤ i.c) :
    (Instr.sliceAt t (i.val k) lo hi' none).run P w = .ok ((i.cut l ie.size).val (h - l)) w := by
  rcases hlo with ⟨rfl, rfl⟩ | ⟨kd, rfl⟩ <;> rcases hhi with ⟨rfl, rfl⟩ | ⟨kd2, rfl⟩ <;>
    simp [Instr.sliceAt, Instr.slice, underlying, ht, Sl.val, Instr.sliceBounds, run_sliceBound, run_sizeOf hi, Sl.cut, h1, show h ≤ i.c by omega]

theorem cut_run (hti : ∀ t, TIok E.P t (ti t)) (hT : TD E A T n c a w) {t e : TypeId} {x : Operand} {lo hi : Option Operand} {i : Sl} {k : Nat} {ml mh : Int} {sz : Nat} {agg : Bool} {size : Nat} {zero : List Value} {fs : List (Nat × Nat × Bool)} {ik : Option IntKind} {kk bytes : Nat} {agg2 : Bool} {zero2 : List Value} {fs2 : List (Nat × Nat × Bool)} {el2 : Option TypeId} {ik2 : Option IntKind} {kk2 bytes2 : Nat}
    (hop : o.op = .slice t x lo hi none) (hx : evalO T x = some (.v (i.val k)))
    (ht : ti t = .mk agg size zero fs (some e) ik kk bytes) (hte : ti e = .mk agg2 sz zero2 fs2 el2 ik2 kk2 bytes2)
    (hlo : bndV T 0 lo = some ml) (hhi : bndV T (k : Int) hi = some mh) {l h : Nat} (el : ml = (l : Int)) (eh : mh = (h : Int)) (h1 : l ≤ h) (h2 : h ≤ k) (h3 : k ≤ i.c) :
    (execOp a.eval o).run E.P w = .ok (.value ((i.cut l sz).val (h - l))) w := by
  have htt := hti t
  rw [ht] at htt
  obtain ⟨ii, dd, z, e1, e2, e3, e4, e5, e6, e7, e8, e9, e10, e11⟩ := tiSum_parts htt
  have htt2 := hti e
  rw [hte] at htt2
  obtain ⟨ii2, dd2, z2, k1, k2, k3, k4, k5, k6, k7, k8, k9, k10, k11⟩ := tiSum_parts htt2
  have hdd := el_slice e8
  subst el; subst eh
  have hx' : a.eval x = i.val k := (evalO_sound hT hx).1
  have := run_cut (P := E.P) (w := w) (by rw [e2, hdd]) k1 i k l h (lo.map a.eval) (hi.map a.eval) (by
    cases lo with
    | none => simp only [bndV, Option.some.injEq] at hlo; exact .inl ⟨rfl, by omega⟩
    | some y => obtain ⟨kd, e⟩ := bndV_some hT hlo; exact .inr ⟨kd, by simp [e]⟩) (by
    cases hi with
    | none => simp only [bndV, Option.some.injEq] at hhi; exact .inl ⟨rfl, by omega⟩
    | some y => obtain ⟨kd, e⟩ := bndV_some hT hhi; exact .inr ⟨kd, by simp [e]⟩) h1 h2 h3
  rw [k4] at this
  simp only [execOp, hop, hx', Option.map_none, this, Sem.run_bind, Sem.run_pure, Result.andThen_ok]

theorem d_cut {t e : TypeId} {x : Operand} {lo hi : Option Operand} {i : Sl} {k : Nat} {ml mh : Int} {sz : Nat} {d : Nat} {cs : List Value} {agg : Bool} {size : Nat} {zero : List Value} {fs : List (Nat × Nat × Bool)} {ik : Option IntKind} {kk bytes : Nat} {agg2 : Bool} {zero2 : List Value} {fs2 : List (Nat × Nat × Bool)} {el2 : Option TypeId} {ik2 : Option IntKind} {kk2 bytes2 : Nat}
    (hti : ∀ t, TIok E.P t (ti t)) (hop : o.op = .slice t x lo hi none) (hx : evalO T x = some (.v (i.val k)))
    (ht : ti t = .mk agg size zero fs (some e) ik kk bytes) (hte : ti e = .mk agg2 sz zero2 fs2 el2 ik2 kk2 bytes2) (hd : Dst E o d)
    (hlo : bndV T 0 lo = some ml) (hhi : bndV T (k : Int) hi = some mh) (hF : ∀ w, (∀ f ∈ Fs, f.P w) → RdS w i sz cs k)
    (l h m : Nat) (el : ml = (l : Int)) (eh : mh = (h : Int)) (h1 : l ≤ h) (h2 : h ≤ k) (hm : m = h - l) {n0 : Nat} {B0 : List (Nat × TypeId × Nat)} {Ms : List ((Nat × Nat) × SV)}
    (hnext : next (.mk ((d, .v ((i.cut l sz).val m)) :: T) n c B M F)) :
    OpW (∀ A, ∃ s : SV, (∀ a w, WD E A n0 B0 Ms Fs w → TD E A T n c a w → (execOp a.eval o).run E.P w = .ok (.value (s.den A)) w ∧ s.okT n c w) ∧ (∃ d, Dst E o d ∧ next (.mk ((d, s) :: T) n c B M F))) := by
  refine ⟨fun A => ⟨.v ((i.cut l sz).val m), fun a w hW hT => ?_, d, hd, hnext⟩⟩
  obtain ⟨_, g2, _, _⟩ := hF w (fun f hf => (hW.fct f hf).1)
  subst hm
  exact ⟨cut_run hti hT hop hx ht hte hlo hhi el eh h1 h2 g2, trivial⟩

theorem bin_run (hT : TD E A T n c a w) {op : BinOp} {t t' : TypeId} {x y : Operand} {u v r : Value} (hop : o.op = .binOp op t x y t') (hx : evalV T x = some u) (hy : evalV T y = some v)
    (hg : (eqGuard op t x y u v).run E.P w = .ok () w) (hb : (binOp op t u v).run E.P w = .ok r w) : (execOp a.eval o).run E.P w = .ok (.value r) w := by
  simp only [execOp, hop, evalV_sound hT hx, evalV_sound hT hy, Sem.run_bind, hg, Result.andThen_ok, hb, Sem.run_pure]

/-- A binary operation that yields r. -/
theorem stop_bin {op : BinOp} {t t' : TypeId} {x y : Operand} {u v : Value} {d : Nat} (hop : o.op = .binOp op t x y t') (hx : evalV T x = some u) (hy : evalV T y = some v) (hd : Dst E o d) (r : Value)
    (hg : ∀ w, (eqGuard op t x y u v).run E.P w = .ok () w) (hb : ∀ w, (binOp op t u v).run E.P w = .ok r w) (hnext : next (.mk ((d, .v r) :: T) n c B M F)) :
    OpW (opStop E o next T n c B M F) := by
  refine ⟨fun A a w hW hT => ?_⟩
  refine upon_of_value (bin_run hT hop hx hy (hg w) (hb w)) ?_
  rw [hd.1]
  exact ⟨_, ⟨_, hW, hT.put (v := .v r) hd.lt trivial⟩, hnext⟩

theorem d_bin {op : BinOp} {t t' : TypeId} {x y : Operand} {u v : Value} {d : Nat} (hop : o.op = .binOp op t x y t') (hx : evalV T x = some u) (hy : evalV T y = some v) (hd : Dst E o d) (r : Value)
    (hg : ∀ w, (eqGuard op t x y u v).run E.P w = .ok () w) (hb : ∀ w, (binOp op t u v).run E.P w = .ok r w) {n0 : Nat} {B0 : List (Nat × TypeId × Nat)} {Ms : List ((Nat × Nat) × SV)}
    (hnext : next (.mk ((d, .v r) :: T) n c B M F)) :
    OpW (∀ A, ∃ s : SV, (∀ a w, WD E A n0 B0 Ms Fs w → TD E A T n c a w → (execOp a.eval o).run E.P w = .ok (.value (s.den A)) w ∧ s.okT n c w) ∧ (∃ d, Dst E o d ∧ next (.mk ((d, s) :: T) n c B M F))) :=
  ⟨fun _A => ⟨.v r, fun _a w _hW hT => ⟨bin_run hT hop hx hy (hg w) (hb w), trivial⟩, d, hd, hnext⟩⟩

theorem rem_run {P : Program} {t : TypeId} {k : IntKind} {p q r : Int} (hne : q ≠ 0) (hr : r = p.tmod q) (w : World) : (binOp .rem t (.int k p) (.int k q)).run P w = .ok (.int k r) w := by
  subst hr; simp [binOp, Op.intDiv, hne]

theorem quo_run {P : Program} {t : TypeId} {k : IntKind} {p q r : Int} (hne : q ≠ 0) (hr : r = k.wrap (p.tdiv q)) (w : World) : (binOp .quo t (.int k p) (.int k q)).run P w = .ok (.int k r) w := by
  subst hr; simp [binOp, Op.intDiv, hne]

end

end Go.Sx

namespace Go.Sx

open Go Go.RowKit

/-- The facts that stand at a world, none of them about block g. -/
def AtP (w : World) (g : Nat) : List Fct → Prop
  | [] => True
  | f :: r => (f.P w ∧ ∀ b, f.foot b → b < w.heap.size ∧ b ≠ g) ∧ AtP w g r

theorem AtP.at {w : World} {g : Nat} : ∀ {F : List Fct}, AtP w g F → At w F
  | [], _ => trivial
  | _ :: _, h => ⟨⟨h.1.1, fun b hb => (h.1.2 b hb).1⟩, AtP.at h.2⟩

theorem AtP.all {w : World} {g : Nat} : ∀ {F : List Fct}, AtP w g F → ∀ f ∈ F, ∀ b, f.foot b → b ≠ g
  | [], _, f, hf => by cases hf
  | _ :: _, h, f, hf => by
    rcases List.mem_cons.1 hf with rfl | hf
    · exact fun b hb => (h.1.2 b hb).2
    · exact AtP.all h.2 f hf

/-- Block g is the variable of type ty with these cells. -/
def Blk (w : World) (g : Nat) (ty : TypeId) (cs : List Value) : Prop := w.heap[g]? = some (.cells cs.toArray ty (0, 0))

section

variable {P : Program} {f : FuncId} {fn : Func} {x : Code} {R : Ending → World → Prop} {ti : Nat → TI}

variable (hf : P.funcs[f]? = some fn) (hb : fn.body = some x) (hti : ∀ t, TIok P t (ti t)) (w : World) (N : Nat) (hN : fn.ntmps = N) (rs : List ResultVar) (hrs : fn.results.toList = rs) (g : Nat) (ty : TypeId) (cs : List Value) (sz : Nat) (hsz : listLen cs = sz) (hg : Blk w g ty cs) (F : List Fct) (hF : AtP w g F) (ho : initOk F)
  include hf hb hti hN hrs hsz hg hF ho

end

section

variable {E : Env} {ti : Nat → TI} {A : Nat → Nat} {T : List (Nat × SV)} {n c : Nat} {B : List (Nat × TypeId × Nat)} {M : List ((Nat × Nat) × SV)} {F Fs : List Fct} {o : Oper} {next : St → Prop} {a : Act} {w w' : World}

def lookBT : List (Nat × TypeId × Nat) → Nat → Option (TypeId × Nat)
  | [], _ => none
  | (k, t, sz) :: r, k' => match Nat.beq k k' with
    | true => some (t, sz)
    | false => lookBT r k'

theorem lookBT_mem : ∀ {B : List (Nat × TypeId × Nat)} {k t sz : Nat}, lookBT B k = some (t, sz) → (k, t, sz) ∈ B
  | [], _, _, _, h => by simp [lookBT] at h
  | (k, t, sz) :: r, k', t', sz', h => by
    simp only [lookBT] at h
    split at h
    · rename_i hb
      obtain rfl := Nat.eq_of_beq_eq_true hb
      simp at h
      obtain ⟨rfl, rfl⟩ := h
      simp
    · exact List.mem_cons_of_mem _ (lookBT_mem h)

/-- A block of which all cells are known. -/
theorem WD.blk (h : WD E A n B M F w) {k ty sz : Nat} {cs : List Value} (hB : (k, ty, sz) ∈ B) (hM : loadN M k 0 sz = some cs) : Blk w (A k) ty cs ∧ cs.length = sz := by
  obtain ⟨_, _, _, cs0, h4, h5⟩ := h.key k ty sz hB
  obtain ⟨g1, g2⟩ := loadN_spec (fun k o v hv => (h.mem k o v hv).2.1) hM
  refine ⟨?_, g1⟩
  unfold Blk
  rw [h4]
  congr 1
  have : cs0 = cs.toArray := by
    apply Array.ext
    · simp [h5, g1]
    · intro j h1 h2
      have := g2 j cs[j] (List.getElem?_eq_getElem (by simpa using h2))
      rw [cell_of_row _ _ _ _ _ _ h4, Nat.zero_add] at this
      obtain ⟨_, e⟩ := Array.getElem?_eq_some_iff.1 this
      simpa using e
  rw [this]

theorem call_enter (hT : TD E A T n c a w) {k : Call} {fo : Operand} {g : FuncId} {cap : List (Nat × Nat)} {l : List SV} (hc : callable E.P g = true)
    (hop : o.op = .call k) (hk : k.callee = .value fo) (hf : evalO T fo = some (.f g cap)) (ha : evalOs T k.args.toList = some l) :
    (execOp a.eval o).run E.P w = .ok (.enter g ((l.map (SV.den A)) ++ cap.map (fun x => ptr A x.1 x.2)).toArray) w := by
  have hargs : (k.args.map a.eval).toList = l.map (SV.den A) := by rw [Array.toList_map]; exact evalOs_sound hT ha
  have hfv := (evalO_sound hT hf).1
  have hcat : (k.args.map a.eval) ++ (cap.map (fun x => ptr A x.1 x.2)).toArray = ((l.map (SV.den A)) ++ cap.map (fun x => ptr A x.1 x.2)).toArray := by
    apply Array.ext'; rw [Array.toList_append, hargs]
  simp only [execOp, hop, resolve, hk, Sem.run_bind, hfv, SV.den, Deferred.ofValue, Sem.run_pure, Result.andThen_ok, Array.empty_append, invoke, hcat, run_callFunc hc]

end

end Go.Sx

namespace Go.Proofs.YtchkcjeeknfchaaGreatDoor

open Go Go.Sx Go.RowKit

theorem wrap_nn {x : Int} (h0 : 0 ≤ x) (h : x < 9223372036854775808) : IntKind.i64.wrap x = x := by
  rw [IntKind.wrap_i64]; omega

end Go.Proofs.YtchkcjeeknfchaaGreatDoor

namespace Go.Proofs.YtchkcjeeknfchaaGreatDoor

open Go Go.Sx Go.RowKit

set_option maxRecDepth 100000 in
theorem l1Thread_c (t : Int) (w : World) : Calls Tryz.prog 122 #[.int .i64 t] w (Ret w fun v L => v = .bool (isThread t) ∧ L = []) := by
  refine calls1 Tryz.func122 rfl tabOk w _ rfl _ rfl [] trivial trivial _ (by decide) ?_
  refine CaseB.mk (fun h => ?_) (fun h => ?_)
  all_goals
    refine retw [] ⟨?_, rfl⟩ trivial rfl trivial (fun _ => rfl)
    simp [isThread] at h ⊢
    omega

set_option maxRecDepth 100000 in
theorem l2Value_c (t : Int) (w : World) : Calls Tryz.prog 51 #[.int .i64 t] w (Ret w fun v L => v = .bool (isValue t) ∧ L = []) := by
  refine calls1 Tryz.func51 rfl tabOk w _ rfl _ rfl [] trivial trivial _ (by decide) ?_
  refine CaseB.mk (fun h => ?_) (fun h => ?_)
  all_goals
    refine retw [] ⟨?_, rfl⟩ trivial rfl trivial (fun _ => rfl)
    simp [isValue] at h ⊢
    omega

/-- The place of t in xs, or -1. -/
def atM : List Int → Int → Int
  | [], _ => -1
  | x :: r, t => if x = t then 0 else (if atM r t < 0 then -1 else atM r t + 1)

theorem atM_mem (xs : List Int) (t : Int) : 0 ≤ atM xs t ↔ t ∈ xs := by
  induction xs with
  | nil => simp [atM]
  | cons x r ih =>
    simp only [atM, List.mem_cons]
    split
    · rename_i h; simp [h]
    · rename_i h
      have h' : ¬ t = x := fun e => h e.symm
      simp only [h', false_or, ← ih]
      split <;> omega

theorem atM_none {xs : List Int} {t : Int} (h : t ∉ xs) : atM xs t = -1 := by
  induction xs with
  | nil => rfl
  | cons x r ih =>
    simp only [List.mem_cons, not_or] at h
    have := ih h.2
    simp only [atM]
    rw [if_neg (fun e => h.1 e.symm), if_pos (by omega)]

theorem atM_at {xs : List Int} {t : Int} {k : Nat} (hk : k < xs.length) (h : t ∉ xs.take k) (he : xs[k] = t) : atM xs t = (k : Int) := by
  induction xs generalizing k with
  | nil => simp at hk
  | cons x r ih =>
    cases k with
    | zero => simp at he; simp [atM, he]
    | succ k =>
      simp only [List.take_succ_cons, List.mem_cons, not_or] at h
      simp only [List.getElem_cons_succ] at he
      have := ih (by simpa using hk) h.2 he
      simp only [atM]
      rw [if_neg (fun e => h.1 e.symm), this, if_neg (by omega)]
      omega

theorem not_mem_take_succ {xs : List Int} {t : Int} {k : Nat} (hk : k < xs.length) (h : t ∉ xs.take k) (he : xs[k] ≠ t) : t ∉ xs.take (k + 1) := by
  rw [List.take_succ_eq_append_getElem hk]
  simp only [List.mem_append, List.mem_singleton, not_or]
  exact ⟨h, fun e => he e.symm⟩

set_option maxRecDepth 100000 in
theorem l2At_c (i : Sl) (xs : List Int) (t : Int) (w : World) (h : At w [slo i cInt 1 xs]) (hb : xs.length ≤ 4294967296) :
    Calls Tryz.prog 124 #[i.val xs.length, .int .i64 t] w (Ret w fun v L => v = .int .i64 (atM xs t) ∧ L = []) := by
  refine calls2 Tryz.func124 rfl tabOk w _ rfl _ rfl _ h ⟨rfl, rfl, trivial⟩ _ _ (by decide) ?_
  refine LoopW.mk ⟨{ k : Nat // k ≤ xs.length ∧ t ∉ xs.take k },
    fun p => .mk [(0, .v (i.val xs.length)), (1, .v (.int .i64 t)), (5, .v (.int .i64 p.1))] 0 0 [] [] [slo i cInt 1 xs],
    fun p => xs.length - p.1, ⟨0, Nat.zero_le _, by simp⟩, ?_, ?_⟩
  · refine weak_mk [0] ?_ ?_ ?_ ?_ ?_ rfl rfl
    · repeat (first | exact trivial | refine ⟨⟨_, rfl, (by first | exact .of rfl | exact .lit rfl | exact .of (by first | (rfl)) | exact .lit (by first | (rfl))), (by first | exact trivial | exact Nat.le_of_ble_eq_true rfl | exact small1 rfl)⟩, ?_⟩)
    · repeat (first | exact trivial | refine ⟨⟨(by first | exact .head _ | exact .tail _ (.head _) | exact .tail _ (.tail _ (.head _)) | exact .tail _ (.tail _ (.tail _ (.head _))) | exact .tail _ (.tail _ (.tail _ (.tail _ (.head _)))) | exact .tail _ (.tail _ (.tail _ (.tail _ (.tail _ (.head _))))) | exact .tail _ (.tail _ (.tail _ (.tail _ (.tail _ (.tail _ (.head _)))))) | exact .tail _ (.tail _ (.tail _ (.tail _ (.tail _ (.tail _ (.tail _ (.head _))))))) | exact .tail _ (.tail _ (.tail _ (.tail _ (.tail _ (.tail _ (.tail _ (.tail _ (.head _)))))))) | exact .tail _ (.tail _ (.tail _ (.tail _ (.tail _ (.tail _ (.tail _ (.tail _ (.tail _ (.head _)))))))))), Nat.le_of_ble_eq_true rfl⟩, ?_⟩)
    · repeat (first | exact trivial | refine ⟨⟨_, rfl, (by first | exact .of rfl | exact .lit rfl | exact .of (by first | (rfl)) | exact .lit (by first | (rfl))), (by first | exact trivial | exact Nat.le_of_ble_eq_true rfl | exact small1 rfl)⟩, ?_⟩)
    · repeat (first | exact trivial | refine ⟨⟨_, rfl⟩, ?_⟩)
    · repeat (first | exact trivial | refine ⟨.inl ⟨_, rfl, (by first | rfl | (rfl))⟩, ?_⟩ | refine ⟨.inr ⟨Nat.le_of_ble_eq_true rfl, rfl, rfl, rfl, rfl⟩, ?_⟩)
  · rintro ⟨k, hk, he⟩
    refine CaseB.mk (fun h => ?_) (fun h => ?_)
    · have hlt : k < xs.length := by simpa using h
      refine stop_idx encInt tabOk rfl rfl rfl rfl rfl ⟨rfl, rfl⟩ (by first | exact rdAt 0 rfl | exact rdOwnAt 0 rfl | exact rdAt 1 rfl | exact rdOwnAt 1 rfl | exact rdAt 2 rfl | exact rdOwnAt 2 rfl | exact rdAt 3 rfl | exact rdOwnAt 3 rfl | exact rdAt 4 rfl | exact rdOwnAt 4 rfl | exact rdAt 5 rfl | exact rdOwnAt 5 rfl | exact rdAt 6 rfl | exact rdOwnAt 6 rfl | exact rdAt 7 rfl | exact rdOwnAt 7 rfl | exact rdAt 8 rfl | exact rdOwnAt 8 rfl | exact rdAt 9 rfl | exact rdOwnAt 9 rfl | exact rdAt 10 rfl | exact rdOwnAt 10 rfl | exact rdAt 11 rfl | exact rdOwnAt 11 rfl | exact rdAt 12 rfl | exact rdOwnAt 12 rfl | exact rdAt 13 rfl | exact rdOwnAt 13 rfl | exact rdAt 14 rfl | exact rdOwnAt 14 rfl | exact rdAt 15 rfl | exact rdOwnAt 15 rfl | exact rdAt 16 rfl | exact rdOwnAt 16 rfl | exact rdAt 17 rfl | exact rdOwnAt 17 rfl | exact rdAt 18 rfl | exact rdOwnAt 18 rfl | exact rdAt 19 rfl | exact rdOwnAt 19 rfl | exact rdAt 20 rfl | exact rdOwnAt 20 rfl | exact rdAt 21 rfl | exact rdOwnAt 21 rfl | exact rdAt 22 rfl | exact rdOwnAt 22 rfl | exact rdAt 23 rfl | exact rdOwnAt 23 rfl) k rfl (by first | omega | (simp; done) | (simp; omega) | (unfold maxLen; omega) | (unfold maxLen; simp; done) | (unfold maxLen; simp; omega)) (fun ad => ?_)
      refine CaseB.mk (fun h => ?_) (fun h => ?_)
      · have heq : xs[k] = t := by simpa using h
        exact retw [] ⟨congrArg (Value.int .i64) (atM_at hlt he heq).symm, rfl⟩ trivial rfl trivial (fun _ => rfl)
      · have hne : xs[k] ≠ t := by simpa using h
        have hw := wrapN k _ hlt hb
        refine ⟨⟨k + 1, by omega, not_mem_take_succ hlt he hne⟩, ?_, by simp; omega⟩
        refine weak_mk [0] ?_ ?_ ?_ ?_ ?_ rfl rfl
        · repeat (first | exact trivial | refine ⟨⟨_, rfl, (by first | exact .of rfl | exact .lit rfl | exact .of (by first | ((exact congrArg (fun z => SV.v (Value.int .i64 z)) hw))) | exact .lit (by first | ((exact congrArg (fun z => SV.v (Value.int .i64 z)) hw)))), (by first | exact trivial | exact Nat.le_of_ble_eq_true rfl | exact small1 rfl)⟩, ?_⟩)
        · repeat (first | exact trivial | refine ⟨⟨(by first | exact .head _ | exact .tail _ (.head _) | exact .tail _ (.tail _ (.head _)) | exact .tail _ (.tail _ (.tail _ (.head _))) | exact .tail _ (.tail _ (.tail _ (.tail _ (.head _)))) | exact .tail _ (.tail _ (.tail _ (.tail _ (.tail _ (.head _))))) | exact .tail _ (.tail _ (.tail _ (.tail _ (.tail _ (.tail _ (.head _)))))) | exact .tail _ (.tail _ (.tail _ (.tail _ (.tail _ (.tail _ (.tail _ (.head _))))))) | exact .tail _ (.tail _ (.tail _ (.tail _ (.tail _ (.tail _ (.tail _ (.tail _ (.head _)))))))) | exact .tail _ (.tail _ (.tail _ (.tail _ (.tail _ (.tail _ (.tail _ (.tail _ (.tail _ (.head _)))))))))), Nat.le_of_ble_eq_true rfl⟩, ?_⟩)
        · repeat (first | exact trivial | refine ⟨⟨_, rfl, (by first | exact .of rfl | exact .lit rfl | exact .of (by first | ((exact congrArg (fun z => SV.v (Value.int .i64 z)) hw))) | exact .lit (by first | ((exact congrArg (fun z => SV.v (Value.int .i64 z)) hw)))), (by first | exact trivial | exact Nat.le_of_ble_eq_true rfl | exact small1 rfl)⟩, ?_⟩)
        · repeat (first | exact trivial | refine ⟨⟨_, rfl⟩, ?_⟩)
        · repeat (first | exact trivial | refine ⟨.inl ⟨_, rfl, (by first | rfl | ((exact congrArg (fun z => SV.v (Value.int .i64 z)) hw)))⟩, ?_⟩ | refine ⟨.inr ⟨Nat.le_of_ble_eq_true rfl, rfl, rfl, rfl, rfl⟩, ?_⟩)
    · have hge : xs.length ≤ k := by simpa using h
      rw [List.take_of_length_le hge] at he
      exact retw [] ⟨congrArg (Value.int .i64) (atM_none he).symm, rfl⟩ trivial rfl trivial (fun _ => rfl)

theorem wrapN2 (k n : Nat) (h : k < n) (hn : n ≤ 8589934592) : IntKind.i64.wrap ((k : Int) + 1) = ((k + 1 : Nat) : Int) := by
  rw [IntKind.wrap_i64]; omega

set_option maxRecDepth 100000 in
theorem index_c (i : Sl) (xs : List Int) (t : Int) (w : World) (h : At w [slo i cInt 1 xs]) (hb : xs.length ≤ 8589934592) :
    Calls Tryz.prog 118 #[i.val xs.length, .int .i64 t] w (Ret w fun v L => v = .int .i64 (atM xs t) ∧ L = []) := by
  refine calls2 Tryz.func118 rfl tabOk w _ rfl _ rfl _ h ⟨rfl, rfl, trivial⟩ _ _ (by decide) ?_
  refine LoopW.mk ⟨{ k : Nat // k ≤ xs.length ∧ t ∉ xs.take k },
    fun p => .mk [(0, .v (i.val xs.length)), (1, .v (.int .i64 t)), (7, .v (.int .i64 xs.length)), (8, .v (.int .i64 p.1))] 0 0 [] [] [slo i cInt 1 xs],
    fun p => xs.length - p.1, ⟨0, Nat.zero_le _, by simp⟩, ?_, ?_⟩
  · refine weak_mk [0] ?_ ?_ ?_ ?_ ?_ rfl rfl
    · repeat (first | exact trivial | refine ⟨⟨_, rfl, (by first | exact .of rfl | exact .lit rfl | exact .of (by first | (rfl)) | exact .lit (by first | (rfl))), (by first | exact trivial | exact Nat.le_of_ble_eq_true rfl | exact small1 rfl)⟩, ?_⟩)
    · repeat (first | exact trivial | refine ⟨⟨(by first | exact .head _ | exact .tail _ (.head _) | exact .tail _ (.tail _ (.head _)) | exact .tail _ (.tail _ (.tail _ (.head _))) | exact .tail _ (.tail _ (.tail _ (.tail _ (.head _)))) | exact .tail _ (.tail _ (.tail _ (.tail _ (.tail _ (.head _))))) | exact .tail _ (.tail _ (.tail _ (.tail _ (.tail _ (.tail _ (.head _)))))) | exact .tail _ (.tail _ (.tail _ (.tail _ (.tail _ (.tail _ (.tail _ (.head _))))))) | exact .tail _ (.tail _ (.tail _ (.tail _ (.tail _ (.tail _ (.tail _ (.tail _ (.head _)))))))) | exact .tail _ (.tail _ (.tail _ (.tail _ (.tail _ (.tail _ (.tail _ (.tail _ (.tail _ (.head _)))))))))), Nat.le_of_ble_eq_true rfl⟩, ?_⟩)
    · repeat (first | exact trivial | refine ⟨⟨_, rfl, (by first | exact .of rfl | exact .lit rfl | exact .of (by first | (rfl)) | exact .lit (by first | (rfl))), (by first | exact trivial | exact Nat.le_of_ble_eq_true rfl | exact small1 rfl)⟩, ?_⟩)
    · repeat (first | exact trivial | refine ⟨⟨_, rfl⟩, ?_⟩)
    · repeat (first | exact trivial | refine ⟨.inl ⟨_, rfl, (by first | rfl | (rfl))⟩, ?_⟩ | refine ⟨.inr ⟨Nat.le_of_ble_eq_true rfl, rfl, rfl, rfl, rfl⟩, ?_⟩)
  · rintro ⟨k, hk, he⟩
    refine CaseB.mk (fun h => ?_) (fun h => ?_)
    · have hlt : k < xs.length := by simpa using h
      refine stop_idx encInt tabOk rfl rfl rfl rfl rfl ⟨rfl, rfl⟩ (by first | exact rdAt 0 rfl | exact rdOwnAt 0 rfl | exact rdAt 1 rfl | exact rdOwnAt 1 rfl | exact rdAt 2 rfl | exact rdOwnAt 2 rfl | exact rdAt 3 rfl | exact rdOwnAt 3 rfl | exact rdAt 4 rfl | exact rdOwnAt 4 rfl | exact rdAt 5 rfl | exact rdOwnAt 5 rfl | exact rdAt 6 rfl | exact rdOwnAt 6 rfl | exact rdAt 7 rfl | exact rdOwnAt 7 rfl | exact rdAt 8 rfl | exact rdOwnAt 8 rfl | exact rdAt 9 rfl | exact rdOwnAt 9 rfl | exact rdAt 10 rfl | exact rdOwnAt 10 rfl | exact rdAt 11 rfl | exact rdOwnAt 11 rfl | exact rdAt 12 rfl | exact rdOwnAt 12 rfl | exact rdAt 13 rfl | exact rdOwnAt 13 rfl | exact rdAt 14 rfl | exact rdOwnAt 14 rfl | exact rdAt 15 rfl | exact rdOwnAt 15 rfl | exact rdAt 16 rfl | exact rdOwnAt 16 rfl | exact rdAt 17 rfl | exact rdOwnAt 17 rfl | exact rdAt 18 rfl | exact rdOwnAt 18 rfl | exact rdAt 19 rfl | exact rdOwnAt 19 rfl | exact rdAt 20 rfl | exact rdOwnAt 20 rfl | exact rdAt 21 rfl | exact rdOwnAt 21 rfl | exact rdAt 22 rfl | exact rdOwnAt 22 rfl | exact rdAt 23 rfl | exact rdOwnAt 23 rfl) k rfl (by first | omega | (simp; done) | (simp; omega) | (unfold maxLen; omega) | (unfold maxLen; simp; done) | (unfold maxLen; simp; omega)) (fun ad => ?_)
      refine CaseB.mk (fun h => ?_) (fun h => ?_)
      · have heq : xs[k] = t := by have : t = xs[k] := by simpa using h
                                   exact this.symm
        exact retw [] ⟨congrArg (Value.int .i64) (atM_at hlt he heq).symm, rfl⟩ trivial rfl trivial (fun _ => rfl)
      · have hne : xs[k] ≠ t := fun e => by simp [e] at h
        have hw := wrapN2 k _ hlt hb
        refine ⟨⟨k + 1, by omega, not_mem_take_succ hlt he hne⟩, ?_, by simp; omega⟩
        refine weak_mk [0] ?_ ?_ ?_ ?_ ?_ rfl rfl
        · repeat (first | exact trivial | refine ⟨⟨_, rfl, (by first | exact .of rfl | exact .lit rfl | exact .of (by first | ((exact congrArg (fun z => SV.v (Value.int .i64 z)) hw))) | exact .lit (by first | ((exact congrArg (fun z => SV.v (Value.int .i64 z)) hw)))), (by first | exact trivial | exact Nat.le_of_ble_eq_true rfl | exact small1 rfl)⟩, ?_⟩)
        · repeat (first | exact trivial | refine ⟨⟨(by first | exact .head _ | exact .tail _ (.head _) | exact .tail _ (.tail _ (.head _)) | exact .tail _ (.tail _ (.tail _ (.head _))) | exact .tail _ (.tail _ (.tail _ (.tail _ (.head _)))) | exact .tail _ (.tail _ (.tail _ (.tail _ (.tail _ (.head _))))) | exact .tail _ (.tail _ (.tail _ (.tail _ (.tail _ (.tail _ (.head _)))))) | exact .tail _ (.tail _ (.tail _ (.tail _ (.tail _ (.tail _ (.tail _ (.head _))))))) | exact .tail _ (.tail _ (.tail _ (.tail _ (.tail _ (.tail _ (.tail _ (.tail _ (.head _)))))))) | exact .tail _ (.tail _ (.tail _ (.tail _ (.tail _ (.tail _ (.tail _ (.tail _ (.tail _ (.head _)))))))))), Nat.le_of_ble_eq_true rfl⟩, ?_⟩)
        · repeat (first | exact trivial | refine ⟨⟨_, rfl, (by first | exact .of rfl | exact .lit rfl | exact .of (by first | ((exact congrArg (fun z => SV.v (Value.int .i64 z)) hw))) | exact .lit (by first | ((exact congrArg (fun z => SV.v (Value.int .i64 z)) hw)))), (by first | exact trivial | exact Nat.le_of_ble_eq_true rfl | exact small1 rfl)⟩, ?_⟩)
        · repeat (first | exact trivial | refine ⟨⟨_, rfl⟩, ?_⟩)
        · repeat (first | exact trivial | refine ⟨.inl ⟨_, rfl, (by first | rfl | ((exact congrArg (fun z => SV.v (Value.int .i64 z)) hw)))⟩, ?_⟩ | refine ⟨.inr ⟨Nat.le_of_ble_eq_true rfl, rfl, rfl, rfl, rfl⟩, ?_⟩)
    · have hge : xs.length ≤ k := by simpa using h
      rw [List.take_of_length_le hge] at he
      exact retw [] ⟨congrArg (Value.int .i64) (atM_none he).symm, rfl⟩ trivial rfl trivial (fun _ => rfl)

set_option maxRecDepth 100000 in
theorem contains_c (i : Sl) (xs : List Int) (t : Int) (w : World) (h : At w [slo i cInt 1 xs]) (hb : xs.length ≤ 8589934592) :
    Calls Tryz.prog 88 #[i.val xs.length, .int .i64 t] w (Ret w fun v L => v = .bool (decide (t ∈ xs)) ∧ L = []) := by
  refine calls2 Tryz.func88 rfl tabOk w _ rfl _ rfl _ h ⟨rfl, rfl, trivial⟩ _ _ (by decide) ?_
  refine stop_call _ cl118 rfl rfl rfl rfl ⟨rfl, rfl⟩ (fun A w hW => index_c i xs t w ⟨(by first | exact hW.rd 0 rfl | exact hW.rdOwn 0 rfl | exact hW.rd 1 rfl | exact hW.rdOwn 1 rfl | exact hW.rd 2 rfl | exact hW.rdOwn 2 rfl | exact hW.rd 3 rfl | exact hW.rdOwn 3 rfl | exact hW.rd 4 rfl | exact hW.rdOwn 4 rfl | exact hW.rd 5 rfl | exact hW.rdOwn 5 rfl | exact hW.rd 6 rfl | exact hW.rdOwn 6 rfl | exact hW.rd 7 rfl | exact hW.rdOwn 7 rfl | exact hW.rd 8 rfl | exact hW.rdOwn 8 rfl | exact hW.rd 9 rfl | exact hW.rdOwn 9 rfl | exact hW.rd 10 rfl | exact hW.rdOwn 10 rfl | exact hW.rd 11 rfl | exact hW.rdOwn 11 rfl | exact hW.rd 12 rfl | exact hW.rdOwn 12 rfl | exact hW.rd 13 rfl | exact hW.rdOwn 13 rfl | exact hW.rd 14 rfl | exact hW.rdOwn 14 rfl | exact hW.rd 15 rfl | exact hW.rdOwn 15 rfl | exact hW.rd 16 rfl | exact hW.rdOwn 16 rfl | exact hW.rd 17 rfl | exact hW.rdOwn 17 rfl | exact hW.rd 18 rfl | exact hW.rdOwn 18 rfl | exact hW.rd 19 rfl | exact hW.rdOwn 19 rfl | exact hW.rd 20 rfl | exact hW.rdOwn 20 rfl | exact hW.rd 21 rfl | exact hW.rdOwn 21 rfl | exact hW.rd 22 rfl | exact hW.rdOwn 22 rfl | exact hW.rd 23 rfl | exact hW.rdOwn 23 rfl), trivial⟩ hb) ?_
  rintro v L ⟨rfl, rfl⟩
  refine retw [] ⟨?_, rfl⟩ trivial rfl trivial (fun _ => rfl)
  simp [atM_mem]

/-- Distinct threads. -/
def distinct (xs : List Int) : Bool := decide (xs.Nodup ∧ ∀ x ∈ xs, isThread x = true)

theorem aget_mem (xs : List Int) (x : Int) : aget (xs.map fun y => (y, true)) x = if x ∈ xs then some true else none := by
  induction xs with
  | nil => simp [aget]
  | cons y r ih =>
    simp only [List.map_cons, aget, ih, List.mem_cons]
    by_cases h : y = x
    · simp [h]
    · have h' : ¬ x = y := fun e => h e.symm
      simp [h, h']

theorem aset_new (xs : List Int) (x : Int) (h : x ∉ xs) : aset (xs.map fun y => (y, true)) x true = (xs ++ [x]).map fun y => (y, true) := by
  rw [aset_none true (by have := aget_mem xs x; rw [if_neg h, aget_idx] at this; cases hi : aidx (xs.map fun y => (y, true)) x <;> simp [hi] at this; rfl)]
  simp

theorem nodup_take_succ {xs : List Int} {k : Nat} (hk : k < xs.length) : (xs.take (k + 1)).Nodup ↔ (xs.take k).Nodup ∧ xs[k] ∉ xs.take k := by
  rw [List.take_succ_eq_append_getElem hk, List.nodup_append]
  simp only [List.nodup_cons, List.not_mem_nil, not_false_eq_true, List.nodup_nil, and_self, List.mem_singleton, ne_eq, true_and]
  constructor
  · rintro ⟨h1, h2⟩
    exact ⟨h1, fun h => h2 _ h _ rfl rfl⟩
  · rintro ⟨h1, h2⟩
    exact ⟨h1, fun a ha b hb e => h2 (by rw [← hb, ← e]; exact ha)⟩

theorem distinct_no {xs : List Int} {k : Nat} (hk : k < xs.length) (h : isThread xs[k] = false ∨ xs[k] ∈ xs.take k) : distinct xs = false := by
  simp only [distinct, decide_eq_false_iff_not]
  rintro ⟨h1, h2⟩
  rcases h with h | h
  · rw [h2 _ (List.getElem_mem hk)] at h; cases h
  · exact ((nodup_take_succ hk).1 (h1.sublist (List.take_sublist _ _))).2 h

def venB (b : Bool) : Value := .bool b

set_option maxRecDepth 100000 in
theorem distinctThreads_c (i : Sl) (xs : List Int) (w : World) (h : At w [slo i cInt 1 xs]) (hb : xs.length ≤ 8589934592) :
    Calls Tryz.prog 85 #[i.val xs.length] w (Ret w fun v L => v = .bool (distinct xs) ∧ L = []) := by
  refine calls1 Tryz.func85 rfl tabOk w _ rfl _ rfl _ h ⟨rfl, rfl, trivial⟩ _ (by decide) ?_
  refine stop_makeMap venB rfl ⟨rfl, rfl⟩ (fun r => ?_)
  refine LoopW.mk ⟨{ k : Nat // k ≤ xs.length ∧ (xs.take k).Nodup ∧ ∀ x ∈ xs.take k, isThread x = true },
    fun p => .mk [(3, .v (.map (some r))), (7, .v (i.val xs.length)), (8, .v (.int .i64 xs.length)), (9, .v (.int .i64 p.1))] 0 0 [] [] [fMap r venB ((xs.take p.1).map fun y => (y, true)), slo i cInt 1 xs],
    fun p => xs.length - p.1, ⟨0, Nat.zero_le _, by simp, by simp⟩, ?_, ?_⟩
  · refine weak_mk [0, 1] ?_ ?_ ?_ ?_ ?_ rfl rfl
    · repeat (first | exact trivial | refine ⟨⟨_, rfl, (by first | exact .of rfl | exact .lit rfl | exact .of (by first | (rfl)) | exact .lit (by first | (rfl))), (by first | exact trivial | exact Nat.le_of_ble_eq_true rfl | exact small1 rfl)⟩, ?_⟩)
    · repeat (first | exact trivial | refine ⟨⟨(by first | exact .head _ | exact .tail _ (.head _) | exact .tail _ (.tail _ (.head _)) | exact .tail _ (.tail _ (.tail _ (.head _))) | exact .tail _ (.tail _ (.tail _ (.tail _ (.head _)))) | exact .tail _ (.tail _ (.tail _ (.tail _ (.tail _ (.head _))))) | exact .tail _ (.tail _ (.tail _ (.tail _ (.tail _ (.tail _ (.head _)))))) | exact .tail _ (.tail _ (.tail _ (.tail _ (.tail _ (.tail _ (.tail _ (.head _))))))) | exact .tail _ (.tail _ (.tail _ (.tail _ (.tail _ (.tail _ (.tail _ (.tail _ (.head _)))))))) | exact .tail _ (.tail _ (.tail _ (.tail _ (.tail _ (.tail _ (.tail _ (.tail _ (.tail _ (.head _)))))))))), Nat.le_of_ble_eq_true rfl⟩, ?_⟩)
    · repeat (first | exact trivial | refine ⟨⟨_, rfl, (by first | exact .of rfl | exact .lit rfl | exact .of (by first | (rfl)) | exact .lit (by first | (rfl))), (by first | exact trivial | exact Nat.le_of_ble_eq_true rfl | exact small1 rfl)⟩, ?_⟩)
    · repeat (first | exact trivial | refine ⟨⟨_, rfl⟩, ?_⟩)
    · repeat (first | exact trivial | refine ⟨.inl ⟨_, rfl, (by first | rfl | (rfl))⟩, ?_⟩ | refine ⟨.inr ⟨Nat.le_of_ble_eq_true rfl, rfl, rfl, rfl, rfl⟩, ?_⟩)
  · rintro ⟨k, hk, hn, ha⟩
    refine CaseB.mk (fun h => ?_) (fun h => ?_)
    · have hlt : k < xs.length := by simpa using h
      refine stop_idx encInt tabOk rfl rfl rfl rfl rfl ⟨rfl, rfl⟩ (by first | exact rdAt 0 rfl | exact rdOwnAt 0 rfl | exact rdAt 1 rfl | exact rdOwnAt 1 rfl | exact rdAt 2 rfl | exact rdOwnAt 2 rfl | exact rdAt 3 rfl | exact rdOwnAt 3 rfl | exact rdAt 4 rfl | exact rdOwnAt 4 rfl | exact rdAt 5 rfl | exact rdOwnAt 5 rfl | exact rdAt 6 rfl | exact rdOwnAt 6 rfl | exact rdAt 7 rfl | exact rdOwnAt 7 rfl | exact rdAt 8 rfl | exact rdOwnAt 8 rfl | exact rdAt 9 rfl | exact rdOwnAt 9 rfl | exact rdAt 10 rfl | exact rdOwnAt 10 rfl | exact rdAt 11 rfl | exact rdOwnAt 11 rfl | exact rdAt 12 rfl | exact rdOwnAt 12 rfl | exact rdAt 13 rfl | exact rdOwnAt 13 rfl | exact rdAt 14 rfl | exact rdOwnAt 14 rfl | exact rdAt 15 rfl | exact rdOwnAt 15 rfl | exact rdAt 16 rfl | exact rdOwnAt 16 rfl | exact rdAt 17 rfl | exact rdOwnAt 17 rfl | exact rdAt 18 rfl | exact rdOwnAt 18 rfl | exact rdAt 19 rfl | exact rdOwnAt 19 rfl | exact rdAt 20 rfl | exact rdOwnAt 20 rfl | exact rdAt 21 rfl | exact rdOwnAt 21 rfl | exact rdAt 22 rfl | exact rdOwnAt 22 rfl | exact rdAt 23 rfl | exact rdOwnAt 23 rfl) k rfl (by first | omega | (simp; done) | (simp; omega) | (unfold maxLen; omega) | (unfold maxLen; simp; done) | (unfold maxLen; simp; omega)) (fun ad => ?_)
      refine stop_call _ cl87 rfl rfl rfl rfl ⟨rfl, rfl⟩ (fun A w hW => isThread_c _ w) ?_
      rintro v L ⟨rfl, rfl⟩
      refine CaseB.mk (fun h => ?_) (fun h => ?_)
      · have h1 : isThread xs[k] = false := by simpa using h
        exact retw [] ⟨congrArg Value.bool (distinct_no hlt (.inl h1)).symm, rfl⟩ trivial rfl trivial (fun _ => rfl)
      · have h1 : isThread xs[k] = true := by simpa using h
        by_cases hm : xs[k] ∈ xs.take k
        · refine stop_lookup 0 (qk := .i64) (kt := 3) (et := 4) (z := (.bool false)) rfl rfl rfl rfl ⟨rfl, rfl⟩ (by kernel_rfl) (by kernel_rfl) (by kernel_rfl) (.bool true) (by rw [aget_mem, if_pos hm]; rfl) ?_
          refine CaseB.mk (fun h => ?_) (fun h => by cases h)
          exact retw [] ⟨congrArg Value.bool (distinct_no hlt (.inr hm)).symm, rfl⟩ trivial rfl trivial (fun _ => rfl)
        · refine stop_lookup 0 (qk := .i64) (kt := 3) (et := 4) (z := (.bool false)) rfl rfl rfl rfl ⟨rfl, rfl⟩ (by kernel_rfl) (by kernel_rfl) (by kernel_rfl) (.bool false) (by rw [aget_mem, if_neg hm]) ?_
          refine CaseB.mk (fun h => by cases h) (fun h => ?_)
          have hT : xs.take (k + 1) = xs.take k ++ [xs[k]] := List.take_succ_eq_append_getElem hlt
          refine stop_mapset 0 true (qk := .i64) (kt := 3) (et := 4) rfl rfl rfl rfl (fun _ => rfl) rfl rfl (by kernel_rfl) (by kernel_rfl) ((xs.take (k + 1)).map fun y => (y, true)) (by rw [aset_new _ _ hm, hT]) ?_
          have hw := wrapN2 k _ hlt hb
          refine ⟨⟨k + 1, by omega, (nodup_take_succ hlt).2 ⟨hn, hm⟩, ?_⟩, ?_, by simp; omega⟩
          · intro x hx
            rw [hT] at hx
            rcases List.mem_append.1 hx with hx | hx
            · exact ha x hx
            · simp at hx; subst hx; exact h1
          · refine weak_mk [0, 1] ?_ ?_ ?_ ?_ ?_ rfl rfl
            · repeat (first | exact trivial | refine ⟨⟨_, rfl, (by first | exact .of rfl | exact .lit rfl | exact .of (by first | ((exact congrArg (fun z => SV.v (Value.int .i64 z)) hw))) | exact .lit (by first | ((exact congrArg (fun z => SV.v (Value.int .i64 z)) hw)))), (by first | exact trivial | exact Nat.le_of_ble_eq_true rfl | exact small1 rfl)⟩, ?_⟩)
            · repeat (first | exact trivial | refine ⟨⟨(by first | exact .head _ | exact .tail _ (.head _) | exact .tail _ (.tail _ (.head _)) | exact .tail _ (.tail _ (.tail _ (.head _))) | exact .tail _ (.tail _ (.tail _ (.tail _ (.head _)))) | exact .tail _ (.tail _ (.tail _ (.tail _ (.tail _ (.head _))))) | exact .tail _ (.tail _ (.tail _ (.tail _ (.tail _ (.tail _ (.head _)))))) | exact .tail _ (.tail _ (.tail _ (.tail _ (.tail _ (.tail _ (.tail _ (.head _))))))) | exact .tail _ (.tail _ (.tail _ (.tail _ (.tail _ (.tail _ (.tail _ (.tail _ (.head _)))))))) | exact .tail _ (.tail _ (.tail _ (.tail _ (.tail _ (.tail _ (.tail _ (.tail _ (.tail _ (.head _)))))))))), Nat.le_of_ble_eq_true rfl⟩, ?_⟩)
            · repeat (first | exact trivial | refine ⟨⟨_, rfl, (by first | exact .of rfl | exact .lit rfl | exact .of (by first | ((exact congrArg (fun z => SV.v (Value.int .i64 z)) hw))) | exact .lit (by first | ((exact congrArg (fun z => SV.v (Value.int .i64 z)) hw)))), (by first | exact trivial | exact Nat.le_of_ble_eq_true rfl | exact small1 rfl)⟩, ?_⟩)
            · repeat (first | exact trivial | refine ⟨⟨_, rfl⟩, ?_⟩)
            · repeat (first | exact trivial | refine ⟨.inl ⟨_, rfl, (by first | rfl | ((exact congrArg (fun z => SV.v (Value.int .i64 z)) hw)))⟩, ?_⟩ | refine ⟨.inr ⟨Nat.le_of_ble_eq_true rfl, rfl, rfl, rfl, rfl⟩, ?_⟩)
    · have hge : xs.length ≤ k := by simpa using h
      rw [List.take_of_length_le hge] at hn ha
      refine retw [] ⟨?_, rfl⟩ trivial rfl trivial (fun _ => rfl)
      simp only [distinct, Value.bool.injEq]
      exact (decide_eq_true ⟨hn, ha⟩).symm

end Go.Proofs.YtchkcjeeknfchaaGreatDoor

namespace Go.Proofs.YtchkcjeeknfchaaGreatDoor

open Go Go.Sx Go.RowKit

set_option maxRecDepth 100000 in
theorem l5Threads_c (s : Sl) (l : List Letter) (w : World) (h : At w [slo s cLet 2 l]) (hb : l.length ≤ 4294967296) :
    Calls Tryz.prog 97 #[s.val l.length] w (Ret w fun v L => ∃ y : Sl, v = y.val ((l.take 7).map Letter.t).length ∧ L = [own y 3 cInt 1 ((l.take 7).map Letter.t)]) := by
  refine calls1 Tryz.func97 rfl tabOk w _ rfl _ rfl _ h ⟨rfl, rfl, trivial⟩ _ (by decide) ?_
  refine AllSl.mk fun y0 => ?_
  refine LoopW.mk ⟨{ p : Nat × Sl // p.1 ≤ l.length ∧ p.1 ≤ 7 },
    fun p => .mk [(0, .v (s.val l.length)), (3, .v (p.1.2.val ((l.take p.1.1).map Letter.t).length)), (4, .v (.int .i64 p.1.1))] 0 0 [] [] [own p.1.2 3 cInt 1 ((l.take p.1.1).map Letter.t), slo s cLet 2 l],
    fun p => l.length - p.1.1, ⟨(0, y0), Nat.zero_le _, by omega⟩, ?_, ?_⟩
  · refine weak_mk [0, 1] ?_ ?_ ?_ ?_ ?_ rfl rfl
    · repeat (first | exact trivial | refine ⟨⟨_, rfl, (by first | exact .of rfl | exact .lit rfl | exact .of (by first | (rfl)) | exact .lit (by first | (rfl))), (by first | exact trivial | exact Nat.le_of_ble_eq_true rfl | exact small1 rfl)⟩, ?_⟩)
    · repeat (first | exact trivial | refine ⟨⟨(by first | exact .head _ | exact .tail _ (.head _) | exact .tail _ (.tail _ (.head _)) | exact .tail _ (.tail _ (.tail _ (.head _))) | exact .tail _ (.tail _ (.tail _ (.tail _ (.head _)))) | exact .tail _ (.tail _ (.tail _ (.tail _ (.tail _ (.head _))))) | exact .tail _ (.tail _ (.tail _ (.tail _ (.tail _ (.tail _ (.head _)))))) | exact .tail _ (.tail _ (.tail _ (.tail _ (.tail _ (.tail _ (.tail _ (.head _))))))) | exact .tail _ (.tail _ (.tail _ (.tail _ (.tail _ (.tail _ (.tail _ (.tail _ (.head _)))))))) | exact .tail _ (.tail _ (.tail _ (.tail _ (.tail _ (.tail _ (.tail _ (.tail _ (.tail _ (.head _)))))))))), Nat.le_of_ble_eq_true rfl⟩, ?_⟩)
    · repeat (first | exact trivial | refine ⟨⟨_, rfl, (by first | exact .of rfl | exact .lit rfl | exact .of (by first | (rfl)) | exact .lit (by first | (rfl))), (by first | exact trivial | exact Nat.le_of_ble_eq_true rfl | exact small1 rfl)⟩, ?_⟩)
    · repeat (first | exact trivial | refine ⟨⟨_, rfl⟩, ?_⟩)
    · repeat (first | exact trivial | refine ⟨.inl ⟨_, rfl, (by first | rfl | (rfl))⟩, ?_⟩ | refine ⟨.inr ⟨Nat.le_of_ble_eq_true rfl, rfl, rfl, rfl, rfl⟩, ?_⟩)
  · rintro ⟨⟨k, out⟩, hk, hk7⟩
    simp only at hk hk7
    have hend : ¬ (k < l.length ∧ k ≤ 6) → (l.take k).map Letter.t = (l.take 7).map Letter.t := fun hn => by
      rcases Nat.lt_or_ge k l.length with h1 | h1
      · have : k = 7 := by omega
        rw [this]
      · rw [List.take_of_length_le h1, List.take_of_length_le (by omega)]
    refine CaseB.mk (fun h => ?_) (fun h => ?_)
    · have hlt : k < l.length := by simpa using h
      refine CaseB.mk (fun h => ?_) (fun h => ?_)
      · have h6 : k ≤ 6 := by simp at h; omega
        have hT : (l.take (k + 1)).map Letter.t = (l.take k).map Letter.t ++ [l[k].t] := by
          rw [List.take_succ_eq_append_getElem hlt, List.map_append]; rfl
        refine stop_idx encLet tabOk rfl rfl rfl rfl rfl ⟨rfl, rfl⟩ (by first | exact rdAt 0 rfl | exact rdOwnAt 0 rfl | exact rdAt 1 rfl | exact rdOwnAt 1 rfl | exact rdAt 2 rfl | exact rdOwnAt 2 rfl | exact rdAt 3 rfl | exact rdOwnAt 3 rfl | exact rdAt 4 rfl | exact rdOwnAt 4 rfl | exact rdAt 5 rfl | exact rdOwnAt 5 rfl | exact rdAt 6 rfl | exact rdOwnAt 6 rfl | exact rdAt 7 rfl | exact rdOwnAt 7 rfl | exact rdAt 8 rfl | exact rdOwnAt 8 rfl | exact rdAt 9 rfl | exact rdOwnAt 9 rfl | exact rdAt 10 rfl | exact rdOwnAt 10 rfl | exact rdAt 11 rfl | exact rdOwnAt 11 rfl | exact rdAt 12 rfl | exact rdOwnAt 12 rfl | exact rdAt 13 rfl | exact rdOwnAt 13 rfl | exact rdAt 14 rfl | exact rdOwnAt 14 rfl | exact rdAt 15 rfl | exact rdOwnAt 15 rfl | exact rdAt 16 rfl | exact rdOwnAt 16 rfl | exact rdAt 17 rfl | exact rdOwnAt 17 rfl | exact rdAt 18 rfl | exact rdOwnAt 18 rfl | exact rdAt 19 rfl | exact rdOwnAt 19 rfl | exact rdAt 20 rfl | exact rdOwnAt 20 rfl | exact rdAt 21 rfl | exact rdOwnAt 21 rfl | exact rdAt 22 rfl | exact rdOwnAt 22 rfl | exact rdAt 23 rfl | exact rdOwnAt 23 rfl) k rfl (by first | omega | (simp; done) | (simp; omega) | (unfold maxLen; omega) | (unfold maxLen; simp; done) | (unfold maxLen; simp; omega)) (fun ad => ?_)
        refine AllSl.mk fun y => ?_
        refine stop_app encInt 1 tabOk (ys := [l[k].t]) rfl rfl rfl rfl rfl rfl rfl rfl rfl (by decide) ⟨rfl, rfl⟩ rfl (by first | exact rdAt 0 rfl | exact rdOwnAt 0 rfl | exact rdAt 1 rfl | exact rdOwnAt 1 rfl | exact rdAt 2 rfl | exact rdOwnAt 2 rfl | exact rdAt 3 rfl | exact rdOwnAt 3 rfl | exact rdAt 4 rfl | exact rdOwnAt 4 rfl | exact rdAt 5 rfl | exact rdOwnAt 5 rfl | exact rdAt 6 rfl | exact rdOwnAt 6 rfl | exact rdAt 7 rfl | exact rdOwnAt 7 rfl | exact rdAt 8 rfl | exact rdOwnAt 8 rfl | exact rdAt 9 rfl | exact rdOwnAt 9 rfl | exact rdAt 10 rfl | exact rdOwnAt 10 rfl | exact rdAt 11 rfl | exact rdOwnAt 11 rfl | exact rdAt 12 rfl | exact rdOwnAt 12 rfl | exact rdAt 13 rfl | exact rdOwnAt 13 rfl | exact rdAt 14 rfl | exact rdOwnAt 14 rfl | exact rdAt 15 rfl | exact rdOwnAt 15 rfl | exact rdAt 16 rfl | exact rdOwnAt 16 rfl | exact rdAt 17 rfl | exact rdOwnAt 17 rfl | exact rdAt 18 rfl | exact rdOwnAt 18 rfl | exact rdAt 19 rfl | exact rdOwnAt 19 rfl | exact rdAt 20 rfl | exact rdOwnAt 20 rfl | exact rdAt 21 rfl | exact rdOwnAt 21 rfl | exact rdAt 22 rfl | exact rdOwnAt 22 rfl | exact rdAt 23 rfl | exact rdOwnAt 23 rfl) (by first | omega | (simp; done) | (simp; omega) | (unfold maxLen; omega) | (unfold maxLen; simp; done) | (unfold maxLen; simp; omega)) (by first | omega | (simp; done) | (simp; omega) | (unfold maxLen; omega) | (unfold maxLen; simp; done) | (unfold maxLen; simp; omega)) (fun z => ?_)
        refine ⟨⟨(k + 1, z), by omega, by omega⟩, ?_, by simp; omega⟩
        have hw := wrapN k _ hlt hb
        refine weak_mk [0, 2] ?_ ?_ ?_ ?_ ?_ rfl rfl
        · repeat (first | exact trivial | refine ⟨⟨_, rfl, (by first | exact .of rfl | exact .lit rfl | exact .of (by first | ((first | (rw [hT]; done) | (simp only; done) | exact congrArg (fun z => SV.v (Value.int .i64 z)) hw))) | exact .lit (by first | ((first | (rw [hT]; done) | (simp only [hT]; done) | exact congrArg (fun z => SV.v (Value.int .i64 z)) hw)))), (by first | exact trivial | exact Nat.le_of_ble_eq_true rfl | exact small1 rfl)⟩, ?_⟩)
        · repeat (first | exact trivial | refine ⟨⟨(by first | exact .head _ | exact .tail _ (.head _) | exact .tail _ (.tail _ (.head _)) | exact .tail _ (.tail _ (.tail _ (.head _))) | exact .tail _ (.tail _ (.tail _ (.tail _ (.head _)))) | exact .tail _ (.tail _ (.tail _ (.tail _ (.tail _ (.head _))))) | exact .tail _ (.tail _ (.tail _ (.tail _ (.tail _ (.tail _ (.head _)))))) | exact .tail _ (.tail _ (.tail _ (.tail _ (.tail _ (.tail _ (.tail _ (.head _))))))) | exact .tail _ (.tail _ (.tail _ (.tail _ (.tail _ (.tail _ (.tail _ (.tail _ (.head _)))))))) | exact .tail _ (.tail _ (.tail _ (.tail _ (.tail _ (.tail _ (.tail _ (.tail _ (.tail _ (.head _)))))))))), Nat.le_of_ble_eq_true rfl⟩, ?_⟩)
        · repeat (first | exact trivial | refine ⟨⟨_, rfl, (by first | exact .of rfl | exact .lit rfl | exact .of (by first | ((first | (rw [hT]; done) | (simp only [hT]; done) | exact congrArg (fun z => SV.v (Value.int .i64 z)) hw))) | exact .lit (by first | ((first | (rw [hT]; done) | (simp only [hT]; done) | exact congrArg (fun z => SV.v (Value.int .i64 z)) hw)))), (by first | exact trivial | exact Nat.le_of_ble_eq_true rfl | exact small1 rfl)⟩, ?_⟩)
        · repeat (first | exact trivial | refine ⟨⟨_, rfl⟩, ?_⟩)
        · repeat (first | exact trivial | refine ⟨.inl ⟨_, rfl, (by first | rfl | ((first | (rw [hT]; done) | (simp only [hT]; done) | exact congrArg (fun z => SV.v (Value.int .i64 z)) hw)))⟩, ?_⟩ | refine ⟨.inr ⟨Nat.le_of_ble_eq_true rfl, rfl, rfl, rfl, rfl⟩, ?_⟩)
      · have h6 : ¬ k ≤ 6 := by simp at h; omega
        have hT := hend (fun h => h6 h.2)
        exact retw [0] ⟨out, rfl, rfl⟩ ⟨.inl ⟨_, rfl, (by first | rfl | ((simp only [hT])))⟩, trivial⟩ rfl ⟨rfl, trivial⟩ (fun _ => (by first | rfl | ((simp only [hT, resV, SV.den]))))
    · have hlt : ¬ k < l.length := by simpa using h
      have hT := hend (fun h => hlt h.1)
      exact retw [0] ⟨out, rfl, rfl⟩ ⟨.inl ⟨_, rfl, (by first | rfl | ((simp only [hT])))⟩, trivial⟩ rfl ⟨rfl, trivial⟩ (fun _ => (by first | rfl | ((simp only [hT, resV, SV.den]))))

end Go.Proofs.YtchkcjeeknfchaaGreatDoor

namespace Go.Sx

open Go Go.RowKit

def gfoot (G : List Fct) (b : Nat) : Prop := ∃ f ∈ G, f.foot b

/-- Facts that a call leaves that may write the rows of G. -/
structure NewG (w w' : World) (G L : List Fct) : Prop where
  all : ∀ f ∈ L, f.P w' ∧ f.old = false ∧ ∀ b, f.foot b → (w.heap.size ≤ b ∨ gfoot G b) ∧ b < w'.heap.size
  dj : L.Pairwise Dj

/-- The same, and block g. -/
def RetPG (w : World) (g : Nat) (ty : TypeId) (sz : Nat) (G : List Fct) (R : Value → List Value → List Fct → Prop) : Ending → World → Prop := fun e w' =>
  ∃ v cs L, e = .returned v ∧ ExtX (fun b => b = g ∨ gfoot G b) w w' ∧ Blk w' g ty cs ∧ cs.length = sz ∧ NewG w w' G L ∧ (∀ f ∈ L, ∀ b, f.foot b → b ≠ g) ∧ R v cs L

def grantOk : List Fct → Prop
  | [] => True
  | f :: r => f.isOwn = true ∧ f.old = false ∧ grantOk r

theorem grantOk_all : ∀ {F : List Fct}, grantOk F → ∀ f ∈ F, f.isOwn = true ∧ f.old = false
  | [], _, f, hf => by cases hf
  | g :: r, h, f, hf => by
    rcases List.mem_cons.1 hf with rfl | hf
    · exact ⟨h.1, h.2.1⟩
    · exact grantOk_all h.2.2 f hf

/-- What a callee may take of the rows G that are handed over, and of the other facts. -/
structure AtG (w : World) (G Fo : List Fct) : Prop where
  at_ : At w (G ++ Fo)
  ok : grantOk G
  dj : (G ++ Fo).Pairwise Dj

abbrev mkEnvPG (P : Program) (w : World) (N g : Nat) (G : List Fct) : Env := ⟨P, w, fun b => b = g ∨ gfoot G b, N, 1, fun _ => g⟩

theorem WD.initPG (P : Program) (w : World) (N g : Nat) (ty : TypeId) (cs : List Value) {G Fo : List Fct} (hg : Blk w g ty cs) (h : AtG w G Fo) (hoff : ∀ f ∈ G ++ Fo, ∀ b, f.foot b → b ≠ g) (ho : initOk Fo) :
    WD (mkEnvPG P w N g G) (fun _ => g) 1 [(0, ty, cs.length)] (storeL 0 0 (cs.map .v) []) (G ++ Fo) w := by
  have hlt : g < w.heap.size := (Array.getElem?_eq_some_iff.1 hg).1
  refine ⟨?_, ?_, ?_, fun k hk => rfl, Nat.le_refl _, ExtX.refl _ _, fun f hf => ?_, h.dj⟩
  · intro k ty' sz hk
    simp only [List.mem_singleton, Prod.mk.injEq] at hk
    obtain ⟨rfl, rfl, rfl⟩ := hk
    exact ⟨Nat.zero_lt_one, hlt, .inr (.inl rfl), _, hg, by simp⟩
  · intro k ty1 sz1 k' ty2 sz2 h1 h2 _
    simp only [List.mem_singleton, Prod.mk.injEq] at h1 h2
    rw [h1.1, h2.1]
  · intro k o v hv
    rw [lookM_storeL] at hv
    split at hv
    · rename_i hc
      obtain ⟨rfl, _, hc3⟩ := hc
      rw [Nat.sub_zero, List.getElem?_map] at hv
      cases hx : cs[o]? with
      | none => rw [hx] at hv; simp at hv
      | some u =>
        rw [hx] at hv; simp at hv; subst hv
        refine ⟨⟨ty, cs.length, by simp⟩, ?_, trivial⟩
        rw [cell_of_row _ _ _ _ _ _ hg]
        show cs.toArray[o]? = some u
        simpa using hx
    · simp [lookM] at hv
  · obtain ⟨h1, h2⟩ := At_all h.at_ f hf
    refine ⟨h1, fun b hb => ⟨h2 b hb, fun k ty sz _ => (hoff f hf b hb).symm⟩, fun e b hb => .inr (.inr ?_)⟩
    rcases List.mem_append.1 hf with hf | hf
    · exact ⟨f, hf, hb⟩
    · rw [(initOk_all ho f hf).2] at e; cases e

section

variable {P : Program} {f : FuncId} {fn : Func} {x : Code} {R : Ending → World → Prop} {ti : Nat → TI}

end

theorem retPG {P : Program} {w : World} {N g ty sz : Nat} {n : Nat} {B : List (Nat × TypeId × Nat)} {M : List ((Nat × Nat) × SV)} {F G : List Fct} {R : Value → List Value → List Fct → Prop} {l : List SV} (ix : List Nat) {L : List Fct} {v : Value} {cs : List Value} (hR : R v cs L) (hB : lookBT B 0 = some (ty, sz)) (hM : loadN M 0 0 sz = some cs)
    (hF : FW F ix L) (hix : nodupB ix = true) (ho : freshOk L) (hv : ∀ A, resV A l = v) :
    RetW (∀ A w', WD (mkEnvPG P w N g G) A n B M F w' → RetPG w g ty sz G R (.returned (resV A l)) w') := by
  refine ⟨fun A w' h => ?_⟩
  rw [hv A]
  have hs := h.pick ix hF hix
  obtain ⟨hb, hl⟩ := h.blk (lookBT_mem hB) hM
  have ha : A 0 = g := h.a0 0 (by show 0 < 1; omega)
  rw [ha] at hb
  have hne : ∀ f ∈ L, ∀ b, f.foot b → b ≠ g := fun f hf b hb e => ((hs.fct f hf).2.1 b hb).2 0 ty sz (lookBT_mem hB) (ha.trans e.symm)
  refine ⟨v, cs, L, rfl, h.ext, hb, hl, ⟨fun f hf => ?_, hs.dj⟩, hne, hR⟩
  obtain ⟨h1, h2, h3⟩ := hs.fct f hf
  refine ⟨h1, freshOk_all ho f hf, fun b hb => ⟨?_, (h2 b hb).1⟩⟩
  rcases h3 (freshOk_all ho f hf) b hb with h4 | h4 | h4
  · exact .inl h4
  · exact absurd h4 (hne f hf b hb)
  · exact .inr h4

/-- The facts but for those with these numbers. -/
def memB : List Nat → Nat → Bool
  | [], _ => false
  | x :: r, k => match Nat.beq x k with
    | true => true
    | false => memB r k

theorem memB_iff : ∀ {l : List Nat} {k : Nat}, memB l k = true ↔ k ∈ l
  | [], k => by simp [memB]
  | x :: r, k => by
    simp only [memB, List.mem_cons]
    by_cases h : x = k
    · subst h; rw [Nat.beq_refl]; simp
    · have h' : ¬ k = x := fun e => h e.symm
      rw [show Nat.beq x k = false from by rw [← Bool.not_eq_true]; intro e; exact h (Nat.eq_of_beq_eq_true e)]
      simp [memB_iff, h']

def dropAt (ix : List Nat) : Nat → List Fct → List Fct
  | _, [] => []
  | k, f :: r => match memB ix k with
    | true => dropAt ix (k + 1) r
    | false => f :: dropAt ix (k + 1) r

theorem dropAt_sub (ix : List Nat) : ∀ (F : List Fct) (k : Nat), (dropAt ix k F).Sublist F
  | [], _ => List.Sublist.refl _
  | f :: r, k => by
    simp only [dropAt]
    split
    · exact (dropAt_sub ix r (k + 1)).cons _
    · exact (dropAt_sub ix r (k + 1)).cons_cons _

theorem dropAt_at (ix : List Nat) : ∀ (F : List Fct) (k : Nat), ∀ f ∈ dropAt ix k F, ∃ j, F[j]? = some f ∧ ¬ (k + j) ∈ ix
  | [], _, f, hf => by cases hf
  | g :: r, k, f, hf => by
    simp only [dropAt] at hf
    split at hf
    · obtain ⟨j, h1, h2⟩ := dropAt_at ix r (k + 1) f hf
      exact ⟨j + 1, by simpa using h1, by rw [show k + (j + 1) = k + 1 + j by omega]; exact h2⟩
    · rename_i hm
      rcases List.mem_cons.1 hf with rfl | hf
      · exact ⟨0, rfl, fun h => by rw [Nat.add_zero, ← memB_iff] at h; rw [h] at hm; cases hm⟩
      · obtain ⟨j, h1, h2⟩ := dropAt_at ix r (k + 1) f hf
        exact ⟨j + 1, by simpa using h1, by rw [show k + (j + 1) = k + 1 + j by omega]; exact h2⟩

theorem FK_at {F : List Fct} : ∀ {ix : List Nat} {G : List Fct}, FK F ix G → ∀ f ∈ G, ∃ i ∈ ix, F[i]? = some f
  | [], [], _, f, hf => by cases hf
  | [], _ :: _, h, _, _ => h.elim
  | _ :: _, [], h, _, _ => h.elim
  | i :: ix, g :: r, h, f, hf => by
    rcases List.mem_cons.1 hf with rfl | hf
    · exact ⟨i, by simp, h.1⟩
    · obtain ⟨j, h1, h2⟩ := FK_at h.2 f hf
      exact ⟨j, by simp [h1], h2⟩

/-- A fact that a callee may take: the same or a slice's reading. -/
inductive Der : Fct → Fct → Prop
  | sl {o : Bool} {i : Sl} {sz n : Nat} {cs : List Value} : Der (fSl o i sz cs n) (fSl true i sz cs n)
  | own {o : Bool} {i : Sl} {e sz n : Nat} {cs : List Value} : Der (fOwn o i e sz cs n) (fSl true i sz cs n)
  | gen {g f : Fct} (h1 : ∀ w, g.P w → f.P w) (h2 : ∀ b, f.foot b → g.foot b) (h3 : f.isOwn = false) (h4 : f.old = true) : Der g f

theorem Der.out {g f : Fct} (h : Der g f) : (∀ w, g.P w → f.P w) ∧ (∀ b, f.foot b → g.foot b) ∧ f.isOwn = false ∧ f.old = true := by
  cases h with
  | sl => exact ⟨fun _ h => h, fun _ h => h, rfl, rfl⟩
  | own => exact ⟨fun _ h => own_rd h, fun _ h => h.2, rfl, rfl⟩
  | gen h1 h2 h3 h4 => exact ⟨h1, h2, h3, h4⟩

def FD (F : List Fct) : List Nat → List Fct → Prop
  | [], [] => True
  | j :: jx, f :: r => (∃ g, F[j]? = some g ∧ Der g f) ∧ FD F jx r
  | _, _ => False

theorem FD_at {F : List Fct} : ∀ {ix : List Nat} {G : List Fct}, FD F ix G → ∀ f ∈ G, ∃ i ∈ ix, ∃ g, F[i]? = some g ∧ Der g f
  | [], [], _, f, hf => by cases hf
  | [], _ :: _, h, _, _ => h.elim
  | _ :: _, [], h, _, _ => h.elim
  | i :: ix, g :: r, h, f, hf => by
    rcases List.mem_cons.1 hf with rfl | hf
    · obtain ⟨g, h1, h2⟩ := h.1
      exact ⟨i, by simp, g, h1, h2⟩
    · obtain ⟨j, h1, h2⟩ := FD_at h.2 f hf
      exact ⟨j, by simp [h1], h2⟩

section

variable {E : Env} {ti : Nat → TI} {A : Nat → Nat} {T : List (Nat × SV)} {n c : Nat} {B : List (Nat × TypeId × Nat)} {M : List ((Nat × Nat) × SV)} {F Fs : List Fct} {o : Oper} {next : St → Prop} {a : Act} {w w' : World}

def noMeet (ix jx : List Nat) : Bool := match jx with
  | [] => true
  | j :: r => match memB ix j with
    | true => false
    | false => noMeet ix r

theorem noMeet_ok : ∀ {ix jx : List Nat}, noMeet ix jx = true → ∀ j ∈ jx, ¬ j ∈ ix
  | _, [], _, j, hj => by cases hj
  | ix, k :: r, h, j, hj => by
    simp only [noMeet] at h
    split at h
    · cases h
    · rename_i hm
      rcases List.mem_cons.1 hj with rfl | hj
      · intro e; rw [memB_iff.2 e] at hm; cases hm
      · exact noMeet_ok h j hj

/-- What a caller shows of the rows that it hands over (their numbers: ix) and of the other facts (jx). -/
theorem WD.atG (h : WD E A n B M F w) (ix : List Nat) {G : List Fct} (hG : FK F ix G) (hix : nodupB ix = true) (hok : grantOk G) (jx : List Nat) {Fo : List Fct} (hFo : FD F jx Fo) (hm : noMeet ix jx = true) : AtG w G Fo := by
  have hg : ∀ f ∈ G, f.P w ∧ ∀ b, f.foot b → b < w.heap.size := fun f hf => by
    obtain ⟨i, _, hi⟩ := FK_at hG f hf
    exact h.nth i hi
  have hoo : ∀ f ∈ Fo, (f.P w ∧ ∀ b, f.foot b → b < w.heap.size) ∧ f.isOwn = false := fun f hf => by
    obtain ⟨i, _, g, hi, hd⟩ := FD_at hFo f hf
    obtain ⟨d1, d2, d3, _⟩ := hd.out
    exact ⟨⟨d1 w (h.nth i hi).1, fun b hb => (h.nth i hi).2 b (d2 b hb)⟩, d3⟩
  have hat : ∀ L : List Fct, (∀ f ∈ L, f.P w ∧ ∀ b, f.foot b → b < w.heap.size) → At w L := fun L => by
    induction L with
    | nil => intro _; trivial
    | cons f r ih => intro hl; exact ⟨hl f (by simp), ih fun f hf => hl f (by simp [hf])⟩
  refine ⟨hat _ fun f hf => ?_, hok, ?_⟩
  · rcases List.mem_append.1 hf with hf | hf
    · exact hg f hf
    · exact (hoo f hf).1
  · rw [List.pairwise_append]
    refine ⟨(h.pick ix (FK.fw hG) hix).dj, ?_, fun f hf g hg => ?_⟩
    · rw [List.pairwise_iff_getElem]
      intro p q hp hq _ hor
      rw [(hoo _ (List.getElem_mem hp)).2, (hoo _ (List.getElem_mem hq)).2] at hor
      simp at hor
    · obtain ⟨i, hi1, hi2⟩ := FK_at hG f hf
      obtain ⟨j, hj1, g0, hj2, hd⟩ := FD_at hFo g hg
      have hne : i ≠ j := fun e => noMeet_ok hm j hj1 (by rw [← e]; exact hi1)
      have hdj := pairwise_pick h.dj hne hi2 hj2
      intro _ b hb hb'
      exact hdj (.inl (grantOk_all hok f hf).1) b hb (hd.out.2.1 b hb')

theorem WD.atG_off (h : WD E A n B M F w) {k ty sz : Nat} (hB : lookBT B k = some (ty, sz)) {ga : Nat} (hga : ga = A k) {ix : List Nat} {G : List Fct} (hG : FK F ix G) {jx : List Nat} {Fo : List Fct} (hFo : FD F jx Fo) : ∀ f ∈ G ++ Fo, ∀ b, f.foot b → b ≠ ga := by
  subst hga
  intro f hf b hb e
  rcases List.mem_append.1 hf with hf | hf
  · obtain ⟨i, _, hi⟩ := FK_at hG f hf
    exact ((h.fct _ (List.mem_of_getElem? hi)).2.1 b hb).2 k ty sz (lookBT_mem hB) e.symm
  · obtain ⟨i, _, g, hi, hd⟩ := FD_at hFo f hf
    exact ((h.fct _ (List.mem_of_getElem? hi)).2.1 b (hd.out.2.1 b hb)).2 k ty sz (lookBT_mem hB) e.symm

/-- An own row has been written in its place: its new fact instead of the old one. -/
theorem WD.turnX (h : WD E A n B M F w) {k g : Nat} {i : Sl} {e sz p q : Nat} {cs ds : List Value} (hk : F[k]? = some (fOwn false i e sz cs p)) (hi : i.a = some ⟨g, 0, none⟩)
    (hX : ExtX (fun b => b = g) w w') (ho : w'.ownsRow 0 e sz (i.val q) q ds) : WD E A n B M (fOwn false i e sz ds q :: F.eraseIdx k) w' := by
  have hfk := h.fct _ (List.mem_of_getElem? hk)
  have hgf : (fOwn false i e sz cs p).foot g := ⟨_, hi, rfl⟩
  have hfg : ∀ b, (fOwn false i e sz ds q).foot b → b = g := by
    rintro b ⟨ad, h1, rfl⟩
    rw [hi] at h1; injection h1 with h1; subst h1; rfl
  have hsub := h.sub (eraseIdx_sub F k)
  have hdj := pairwise_nth_erase h.dj hk
  have hW' : WD E A n B M (F.eraseIdx k) w' := by
    refine hsub.grow hX (fun k' ty sz' hk' e => (hfk.2.1 g hgf).2 k' ty sz' hk' e) (fun f hf b hb e => hdj f hf (.inl rfl) g hgf (e ▸ hb)) (fun b hb e => ?_)
    subst e
    exact (hfk.2.2 rfl b hgf).resolve_left (by omega)
  refine ⟨hW'.key, hW'.inj, hW'.mem, hW'.a0, hW'.n0, hW'.ext, ?_, ?_⟩
  · intro f hf
    rcases List.mem_cons.1 hf with rfl | hf
    · refine ⟨ho, fun b hb => ?_, fun _ b hb => ?_⟩
      · obtain rfl := hfg b hb
        exact ⟨Nat.lt_of_lt_of_le (hfk.2.1 b hgf).1 hX.size, (hfk.2.1 b hgf).2⟩
      · obtain rfl := hfg b hb
        exact hfk.2.2 rfl b hgf
    · exact hW'.fct f hf
  · rw [List.pairwise_cons]
    refine ⟨fun f hf _ b hb hb' => ?_, hW'.dj⟩
    obtain rfl := hfg b hb
    exact hdj f hf (.inl rfl) b hgf hb'

theorem own_store {P : Program} {i : Sl} {e sz p g off : Nat} {cs vs : List Value} (hown : w.ownsRow 0 e sz (i.val p) p cs) (hi : i.a = some ⟨g, 0, none⟩) (hle : off + vs.length ≤ p * sz) (h1 : ∀ v ∈ vs, v.oneCell' = true) :
    ∃ w', (storeCells ⟨g, off, none⟩ vs).run P w = .ok () w' ∧ ExtX (fun b => b = g) w w' ∧ w'.ownsRow 0 e sz (i.val p) p (cs.take off ++ vs ++ cs.drop (off + vs.length)) := by
  rcases own_cases hown with ⟨h2, _⟩ | ⟨g', cur, h2, h3, h4, h5, h6, h7⟩
  · rw [hi] at h2; cases h2
  · rw [hi] at h2
    injection h2 with h2
    injection h2 with h2
    subst h2
    have hpc : p * sz ≤ i.c * sz := Nat.mul_le_mul_right _ h4
    have hrun := run_storeCells_at (P := P) g off e vs 0 cur w h3 (by simp; omega) h1
    refine ⟨_, hrun, ?_⟩
    simp only [Nat.add_zero]
    generalize hcs' : (List.take off cur.toList ++ vs ++ List.drop (off + vs.length) cur.toList).toArray = cs'
    have hsz : cs'.size = i.c * sz := by rw [← hcs']; simp; omega
    have hnew : (w.setRow g cs').heap[g]? = some (.cells cs' e (0, 0)) := setRow_heap w g cur cs' e (0, 0) h3
    have hother : ∀ b, b ≠ g → (w.setRow g cs').heap[b]? = w.heap[b]? := fun b hb => by
      simp only [World.setRow, Array.getElem?_modify]
      rw [if_neg (fun e => hb e.symm)]
    have hhsz : (w.setRow g cs').heap.size = w.heap.size := by simp [World.setRow]
    have hl := hown.1
    refine ⟨⟨rfl, rfl, rfl, by rw [hhsz]; exact Nat.le_refl _, fun b _ hb => hother b hb⟩, by simp; omega, .inr ⟨g, i.c, cs', by simp only [Sl.val, hi], Nat.zero_le _, hnew, h4, h5, hsz, ?_⟩⟩
    rw [← hcs', ← h7]
    have hcl : cur.toList.length = i.c * sz := by simpa using h6
    have e1 : (List.take (p * sz) cur.toList).take off = cur.toList.take off := by rw [List.take_take]; congr 1; omega
    have e2 : (List.take (p * sz) cur.toList).drop (off + vs.length) = (cur.toList.drop (off + vs.length)).take (p * sz - (off + vs.length)) := by rw [List.drop_take]
    rw [e1, e2]
    have e3 : (List.take off cur.toList ++ vs).length = off + vs.length := by rw [List.length_append, List.length_take, hcl]; omega
    show List.take (p * sz) (List.take off cur.toList ++ vs ++ List.drop (off + vs.length) cur.toList) = _
    rw [List.take_append, e3, List.take_of_length_le (by rw [e3]; omega)]

theorem cells_set {α : Type} {enc : α → List Value} {sz : Nat} (he : Enc enc sz) {xs : List α} {j off : Nat} {y : α} {vs : List Value} (hj : j < xs.length) (hle : off + vs.length ≤ sz) (hy : enc y = (enc xs[j]).take off ++ vs ++ (enc xs[j]).drop (off + vs.length)) :
    cells enc (xs.set j y) = (cells enc xs).take (j * sz + off) ++ vs ++ (cells enc xs).drop (j * sz + off + vs.length) := by
  have hsp : xs = xs.take j ++ xs[j] :: xs.drop (j + 1) := by rw [← List.drop_eq_getElem_cons hj, List.take_append_drop]
  have hset : xs.set j y = xs.take j ++ y :: xs.drop (j + 1) := by rw [List.set_eq_take_append_cons_drop, if_pos hj]
  have hc : cells enc xs = cells enc (xs.take j) ++ (enc xs[j] ++ cells enc (xs.drop (j + 1))) := by
    conv => lhs; rw [hsp]
    rw [cells_append]; rfl
  have hlt : (cells enc (xs.take j)).length = j * sz := by rw [cells_length he]; simp; rw [Nat.min_eq_left (by omega)]
  have hle2 : (enc xs[j]).length = sz := he.len _
  have t1 : (cells enc xs).take (j * sz + off) = cells enc (xs.take j) ++ (enc xs[j]).take off := by
    rw [hc, List.take_append, hlt, List.take_of_length_le (by rw [hlt]; omega), Nat.add_sub_cancel_left, List.take_append, hle2, show off - sz = 0 by omega]
    simp
  have t2 : (cells enc xs).drop (j * sz + off + vs.length) = (enc xs[j]).drop (off + vs.length) ++ cells enc (xs.drop (j + 1)) := by
    rw [hc, List.drop_append, hlt, List.drop_of_length_le (by rw [hlt]; omega), show j * sz + off + vs.length - j * sz = off + vs.length by omega, List.drop_append, hle2, show off + vs.length - sz = 0 by omega]
    simp
  rw [hset, cells_append, t1, t2]
  show cells enc (xs.take j) ++ (enc y ++ cells enc (xs.drop (j + 1))) = _
  rw [hy]
  simp [List.append_assoc]

/-- An index into an own row, that will be written. -/
theorem stop_idxW {α : Type} {enc : α → List Value} {sz : Nat} (_he : Enc enc sz) (k1 : Nat) {t e : TypeId} {x ix : Operand} {i : Sl} {xs : List α} {kd : IntKind} {m : Int} {d : Nat} {agg : Bool} {size : Nat} {zero : List Value} {fs : List (Nat × Nat × Bool)} {ik : Option IntKind} {kk bytes : Nat} {agg2 : Bool} {zero2 : List Value} {fs2 : List (Nat × Nat × Bool)} {el2 : Option TypeId} {ik2 : Option IntKind} {kk2 bytes2 : Nat}
    (hti : ∀ t, TIok E.P t (ti t)) (hop : o.op = .indexAddr t x ix) {m0 : Nat} (hx : evalO T x = some (.v (i.val m0))) (hix : evalO T ix = some (.v (.int kd m)))
    (ht : ti t = .mk agg size zero fs (some e) ik kk bytes) (hte : ti e = .mk agg2 sz zero2 fs2 el2 ik2 kk2 bytes2) (hd : Dst E o d)
    (hF : F[k1]? = some (own i e enc sz xs)) (hm0 : m0 = xs.length) (j : Nat) (hj : m = (j : Int)) (hlt : j < xs.length)
    (hnext : ∀ g, i.a = some ⟨g, 0, none⟩ → next (.mk ((d, .v (.pointer (some ⟨g, j * sz, none⟩))) :: T) n c B M F)) :
    OpW (opStop E o next T n c B M F) := by
  subst hm0
  refine ⟨fun A a w hW hT => ?_⟩
  have hown := (hW.nth k1 hF).1
  rcases own_cases hown with ⟨_, h2, _⟩ | ⟨g, cur, h2, _⟩
  · omega
  have htt := hti t
  rw [ht] at htt
  obtain ⟨ii, dd, z, e1, e2, e3, e4, e5, e6, e7, e8, e9, e10, e11⟩ := tiSum_parts htt
  have htt2 := hti e
  rw [hte] at htt2
  obtain ⟨ii2, dd2, z2, k1, k2, k3, k4, k5, k6, k7, k8, k9, k10, k11⟩ := tiSum_parts htt2
  have hdd := el_slice e8
  subst hj
  have hr : (execOp a.eval o).run E.P w = .ok (.value (.pointer (some ⟨g, j * sz, none⟩))) w := by
    have hx' : a.eval x = .slice (some ⟨g, 0, none⟩) xs.length i.c := by rw [(evalO_sound hT hx).1]; simp [SV.den, Sl.val, h2]
    have hix' : a.eval ix = .int kd j := (evalO_sound hT hix).1
    simp [execOp, hop, Instr.indexAt, hx', hix', asIntOf, underlying, e2, hdd, run_sizeOf k1, k4, hlt]
    unfold Addr.add
    split <;> simp_all
  refine upon_of_value hr ?_
  rw [hd.1]
  exact ⟨_, ⟨_, hW, hT.put (v := .v (.pointer (some ⟨g, j * sz, none⟩))) hd.lt trivial⟩, hnext g h2⟩

/-- A field of an element that will be written. -/
theorem stop_fldW {t : TypeId} {x : Operand} {k : Nat} {g off o2 sz2 d : Nat} {ag : Bool} {agg : Bool} {size : Nat} {zero : List Value} {fs : List (Nat × Nat × Bool)} {el : Option TypeId} {ik : Option IntKind} {kk bytes : Nat}
    (hti : ∀ t, TIok E.P t (ti t)) (hop : o.op = .fieldAddr t x k) (hx : evalO T x = some (.v (.pointer (some ⟨g, off, none⟩)))) (ht : ti t = .mk agg size zero fs el ik kk bytes) (hk : nth fs k = some (o2, sz2 + 1, ag)) (hd : Dst E o d)
    (hnext : next (.mk ((d, .v (.pointer (some ⟨g, off + o2, none⟩))) :: T) n c B M F)) : OpW (opStop E o next T n c B M F) := by
  refine ⟨fun A a w hW hT => ?_⟩
  have htt := hti t
  rw [ht] at htt
  obtain ⟨ii, dd, z, e1, e2, e3, e4, e5, e6, e7, e8, e9, e10, e11⟩ := tiSum_parts htt
  obtain ⟨fields, f, fi, fd, rfl, hfi, rfl, g1, g2, g3, g4⟩ := fs_field e7 hk
  have hx' : a.eval x = .pointer (some ⟨g, off, none⟩) := (evalO_sound hT hx).1
  have hr : (execOp a.eval o).run E.P w = .ok (.value (.pointer (some ⟨g, off + f.offset, none⟩))) w := by
    have hadd : (⟨g, off, none⟩ : Addr).add f.offset = ⟨g, off + f.offset, none⟩ := ptr_add (fun _ => g) 0 off f.offset
    simp [execOp, hop, hx', Instr.fieldAt, underlying, e2, hfi, Instr.sureAddr, fieldPlace, run_sizeOf g1, g2, hadd]
  refine upon_of_value hr ?_
  rw [hd.1]
  exact ⟨_, ⟨_, hW, hT.put (v := .v (.pointer (some ⟨g, off + f.offset, none⟩))) hd.lt trivial⟩, hnext⟩

/-- A store into an own row. -/
theorem stop_storeW {α : Type} {enc : α → List Value} {sz : Nat} (he : Enc enc sz) (k1 : Nat) {xs : List α} {i : Sl} {t e : TypeId} {x y : Operand} {g ad : Nat} {s : SV} {l : List SV} {sz2 : Nat} {agg : Bool} {zero : List Value} {fs : List (Nat × Nat × Bool)} {el : Option TypeId} {ik : Option IntKind} {kk bytes : Nat}
    (hti : ∀ t, TIok E.P t (ti t)) (hop : o.op = .store t x y) (hd : o.dst = none) (hx : evalO T x = some (.v (.pointer (some ⟨g, ad, none⟩)))) (hy : evalO T y = some s) (hl : cellsSV s = some l) (ht : ti t = .mk agg sz2 zero fs el ik kk bytes) (hlen : listLen l = sz2)
    (hF : F[k1]? = some (own i e enc sz xs)) (hi : i.a = some ⟨g, 0, none⟩) (j off : Nat) (y0 : α) (had : ad = j * sz + off) (hj : j < xs.length) (hle : Nat.ble (off + sz2) sz = true) (vs : List Value) (hvs : ∀ A, l.map (SV.den A) = vs)
    (hy0 : enc y0 = (enc xs[j]).take off ++ vs ++ (enc xs[j]).drop (off + vs.length))
    (hnext : next (.mk T n (c + 1) B M (own i e enc sz (xs.set j y0) :: F.eraseIdx k1))) : OpW (opStop E o next T n c B M F) := by
  refine ⟨fun A a w hW hT => ?_⟩
  have hown := (hW.nth k1 hF).1
  have htt := hti t
  rw [ht] at htt
  obtain ⟨ii, dd, z, e1, e2, e3, e4, e5, e6, e7, e8, e9, e10, e11⟩ := tiSum_parts htt
  obtain ⟨h1, h2⟩ := evalO_sound hT hy
  have h3 : a.eval x = .pointer (some ⟨g, ad, none⟩) := (evalO_sound hT hx).1
  obtain ⟨c1, c2, c3⟩ := cellsSV_spec (A := A) hl h2
  rw [hvs A] at c1
  have hvl : vs.length = sz2 := by rw [← hvs A, List.length_map, ← listLen_eq]; exact hlen
  have hle' := Nat.le_of_ble_eq_true hle
  have hjs : (j + 1) * sz ≤ xs.length * sz := Nat.mul_le_mul_right _ hj
  rw [Nat.succ_mul] at hjs
  subst had
  obtain ⟨w', hrun, hX, hnew⟩ := own_store (P := E.P) (w := w) (off := j * sz + off) (vs := vs) hown hi (by omega) (fun v hv => by
    rw [← hvs A] at hv
    obtain ⟨q, hq, rfl⟩ := List.mem_map.1 hv
    exact c3 q hq)
  rw [← cells_set he hj (by omega) hy0] at hnew
  have hr : (execOp a.eval o).run E.P w = .ok .skip w' := by
    have hcs : (s.den A).cells.size = ii.size := by
      have : (s.den A).cells.toList.length = vs.length := by rw [c1]
      simp at this
      rw [this, hvl, e4]
    simp only [execOp, hop, Instr.storeAt, h1, h3, Instr.sureAddr, Sem.run_bind, Sem.run_pure, Result.andThen_ok, storeVar, run_sizeOf e1]
    rw [if_neg (by simp [hcs]), c1]
    simp only [Result.andThen_ok, hrun]
  refine upon_of_skip hr ?_
  rw [hd]
  refine ⟨_, ⟨_, ?_, hT.step w'⟩, hnext⟩
  show WD E A n B M (fOwn false i e sz (cells enc (xs.set j y0)) (xs.set j y0).length :: F.eraseIdx k1) w'
  have hlen' : (xs.set j y0).length = xs.length := by simp
  rw [hlen']
  exact hW.turnX hF hi hX hnew

/-- make([]T, n). -/
theorem stop_make {α : Type} {enc : α → List Value} {sz : Nat} (he : Enc enc sz) (z0 : α) {t e : TypeId} {x : Operand} {kd : IntKind} {m : Int} {d : Nat} {agg : Bool} {size : Nat} {zero : List Value} {fs : List (Nat × Nat × Bool)} {ik : Option IntKind} {kk bytes : Nat} {agg2 : Bool} {zero2 : List Value} {fs2 : List (Nat × Nat × Bool)} {el2 : Option TypeId} {ik2 : Option IntKind} {kk2 bytes2 : Nat}
    (hti : ∀ t, TIok E.P t (ti t)) (hop : o.op = .makeSlice t x x) (hx : evalO T x = some (.v (.int kd m)))
    (ht : ti t = .mk agg size zero fs (some e) ik kk bytes) (hte : ti e = .mk agg2 sz zero2 fs2 el2 ik2 kk2 bytes2) (hz : zero2 = enc z0) (h0 : 0 < sz) (hd : Dst E o d)
    (q : Nat) (hq : m = (q : Int)) (hb : bytes2 * q ≤ 281474976710656) (hm : q ≤ maxLen)
    (hnext : ∀ y : Sl, next (.mk ((d, .v (y.val q)) :: T) n (c + 1) B M (own y e enc sz (List.replicate q z0) :: F))) :
    OpW (opStop E o next T n c B M F) := by
  refine ⟨fun A a w hW hT => ?_⟩
  have htt := hti t
  rw [ht] at htt
  obtain ⟨ii, dd, z, e1, e2, e3, e4, e5, e6, e7, e8, e9, e10, e11⟩ := tiSum_parts htt
  have htt2 := hti e
  rw [hte] at htt2
  obtain ⟨ii2, dd2, z2, k1, k2, k3, k4, k5, k6, k7, k8, k9, k10, k11⟩ := tiSum_parts htt2
  have hdd := el_slice e8
  subst hq
  obtain ⟨w', hr, ho, hg⟩ := run_make_full (P := E.P) w 0 t e ii2 z2 sz (by rw [e2, hdd]) k1 k5 k4 kd kd q (by rw [k11]; exact hb) hm (Nat.zero_le _)
  have hx' : a.eval x = .int kd (q : Int) := (evalO_sound hT hx).1
  have hrr : (execOp a.eval o).run E.P w = .ok (.value (.slice (some ⟨w.heap.size, 0, none⟩) q q)) w' := by
    simp only [execOp, hop, hx', hr, Sem.run_bind, Sem.run_pure, Result.andThen_ok]
  have hzc : z2.cells.toList = enc z0 := by rw [k6, hz]
  have hcells : (madeCells z2.cells (q * sz)).toList = cells enc (List.replicate q z0) := by
    have hzs : z2.cells.size = sz := by have := congrArg List.length hzc; rw [he.len] at this; simpa using this
    apply List.ext_getElem?
    intro j
    by_cases hj : j < q * sz
    · have hk : j / sz < q := Nat.div_lt_of_lt_mul (by rwa [Nat.mul_comm] at hj)
      have hrm : j % sz < sz := Nat.mod_lt _ h0
      have hr' : j % sz < (enc ((List.replicate q z0)[j / sz]'(by simpa using hk))).length := by rw [he.len]; exact hrm
      have h2 := cells_at he (xs := List.replicate q z0) (by simpa using hk) (List.getElem?_eq_getElem hr')
      rw [Nat.div_add_mod'] at h2
      rw [h2]
      simp only [madeCells, Array.toList_map, Array.toList_range, List.getElem?_map, List.getElem?_range hj, Option.map_some, List.getElem_replicate]
      congr 1
      rw [hzs, getElem!_pos z2.cells (j % sz) (by rw [hzs]; exact hrm)]
      have : z2.cells[j % sz]'(by rw [hzs]; exact hrm) = z2.cells.toList[j % sz]'(by simpa [hzs] using hrm) := by simp
      rw [this]
      simp only [hzc]
    · rw [List.getElem?_eq_none (by simp [madeCells]; omega), List.getElem?_eq_none (by rw [cells_length he]; simp; omega)]
  rw [hcells] at ho
  refine upon_of_value hrr ?_
  rw [hd.1]
  have hnew : New w w' [own (⟨some ⟨w.heap.size, 0, none⟩, q⟩ : Sl) e enc sz (List.replicate q z0)] := by
    refine ⟨fun f hf => ?_, List.pairwise_singleton _ _⟩
    simp only [List.mem_singleton] at hf
    subst hf
    have ho' : w'.ownsRow 0 e sz ((⟨some ⟨w.heap.size, 0, none⟩, q⟩ : Sl).val (List.replicate q z0).length) (List.replicate q z0).length (cells enc (List.replicate q z0)) := by
      rw [List.length_replicate]; exact ho
    refine ⟨ho', rfl, ?_⟩
    rintro b ⟨ad, q1, rfl⟩
    simp only [Option.some.injEq] at q1
    subst q1
    have hlt := (ho.lt w.heap.size (by simp [Value.ownBlock])).2
    exact ⟨Nat.le_refl _, hlt⟩
  have hex : Ext w w' := ExtX.grown hg (fun g hg => by cases hg)
  exact ⟨_, ⟨_, hW.learn hex hnew, (hT.step w').put (v := .v ((⟨some ⟨w.heap.size, 0, none⟩, q⟩ : Sl).val q)) hd.lt trivial⟩, hnext _⟩

end

end Go.Sx

namespace Go.Sx

open Go Go.RowKit

theorem blk_st (g : Nat) (ty : TypeId) (cs : List Value) (w w' : World) (hb : ∀ b, b = g → w'.heap[b]? = w.heap[b]?) : Blk w g ty cs → Blk w' g ty cs := fun h => by
  unfold Blk at *
  rw [hb g rfl]; exact h

/-- Block g is the variable of type ty with these cells: nobody writes it meanwhile. -/
abbrev fVar (g : Nat) (ty : TypeId) (cs : List Value) : Fct := .other true false (fun b => b = g) (fun w => Blk w g ty cs) (blk_st g ty cs)

section

variable {E : Env} {ti : Nat → TI} {A : Nat → Nat} {T : List (Nat × SV)} {n c : Nat} {B : List (Nat × TypeId × Nat)} {M Ms : List ((Nat × Nat) × SV)} {F Fs : List Fct} {o : Oper} {next : St → Prop} {a : Act} {w w' : World}

theorem WD.var (h : WD E A n B M F w) {k ty sz : Nat} {cs : List Value} (hB : lookBT B k = some (ty, sz)) (hM : loadN M k 0 sz = some cs) : (fVar (A k) ty cs).P w ∧ ∀ b, (fVar (A k) ty cs).foot b → b < w.heap.size :=
  ⟨(h.blk (lookBT_mem hB) hM).1, fun b hb => by
    obtain rfl : b = A k := hb
    exact (h.key k ty sz (lookBT_mem hB)).2.1⟩

/-- A call of a function value that came in. -/
theorem stop_callV (R : Value → List Fct → Prop) {k : Call} {fo : Operand} {g : FuncId} {cap : Array Value} {l : List SV} {d : Nat} (hc : callable E.P g = true)
    (hop : o.op = .call k) (hk : k.callee = .value fo) (hf : evalO T fo = some (.v (.func (.func g) #[] cap))) (ha : evalOs T k.args.toList = some l) (hd : Dst E o d)
    (hcall : ∀ A w, WD E A n B M F w → Calls E.P g ((l.map (SV.den A)) ++ cap.toList).toArray w (Ret w R))
    (hnext : ∀ v L, R v L → next (.mk ((d, .v v) :: T) n (c + 1) B M (L ++ F))) :
    OpW (opStop E o next T n c B M F) := by
  refine ⟨fun A a w hW hT => ?_⟩
  have hargs : (k.args.map a.eval).toList = l.map (SV.den A) := by rw [Array.toList_map]; exact evalOs_sound hT ha
  have hfv := (evalO_sound hT hf).1
  have hr : (execOp a.eval o).run E.P w = .ok (.enter g ((l.map (SV.den A)) ++ cap.toList).toArray) w := by
    have hcat : (k.args.map a.eval) ++ cap = ((l.map (SV.den A)) ++ cap.toList).toArray := by
      apply Array.ext'; rw [Array.toList_append, hargs]
    simp only [execOp, hop, resolve, hk, Sem.run_bind, hfv, SV.den, Deferred.ofValue, Sem.run_pure, Result.andThen_ok, Array.empty_append, invoke, hcat, run_callFunc hc]
  unfold Oper.wp
  rw [hr, Oper.upon_enter]
  refine (hcall A w hW).mono ?_
  rintro e w' ⟨v, L, rfl, he, hL, hR⟩
  refine ⟨_, ⟨_, hW.learn he hL, ?_⟩, hnext v L hR⟩
  rw [hd.1]
  exact (hT.step w').put (v := .v v) hd.lt trivial

/-- A load of a variable that a fact knows. -/
theorem stop_loadV (k1 : Nat) {t ty : TypeId} {x : Operand} {g d : Nat} {cs : List Value} {v : Value} {size : Nat} {zero : List Value} {fs : List (Nat × Nat × Bool)} {el : Option TypeId} {ik : Option IntKind} {kk bytes : Nat}
    (hti : ∀ t, TIok E.P t (ti t)) (hop : o.op = .load t x) (hx : evalO T x = some (.v (.pointer (some ⟨g, 0, none⟩)))) (ht : ti t = .mk false size zero fs el ik kk bytes) (hF : F[k1]? = some (fVar g ty cs)) (hv : cs[0]? = some v) (hd : Dst E o d)
    (hnext : next (.mk ((d, .v v) :: T) n c B M F)) : OpW (opStop E o next T n c B M F) := by
  refine ⟨fun A a w hW hT => ?_⟩
  have htt := hti t
  rw [ht] at htt
  obtain ⟨ii, dd, z, e1, e2, e3, e4, e5, e6, e7, e8, e9, e10, e11⟩ := tiSum_parts htt
  have hx' : a.eval x = .pointer (some ⟨g, 0, none⟩) := (evalO_sound hT hx).1
  have hb : Blk w g ty cs := (hW.nth k1 hF).1
  have hc : w.cell? ⟨g, 0, none⟩ = some v := by
    rw [cell_of_row _ _ _ _ _ _ hb]
    show cs.toArray[0]? = some v
    simpa using hv
  have hr : (execOp a.eval o).run E.P w = .ok (.value v) w := by
    simp [execOp, hop, hx', Instr.loadAt, Instr.sureAddr, run_loadVar_one (w := w) e2 e3 _ _ hc]
  refine upon_of_value hr ?_
  rw [hd.1]
  exact ⟨_, ⟨_, hW, hT.put (v := .v v) hd.lt trivial⟩, hnext⟩

/-- What an own row tells of its header. -/
theorem draw_own {id : Nat} {ops : Array Oper} {K : St → Prop} (k1 : Nat) {i : Sl} {e sz q : Nat} {cs : List Value} (hF : F[k1]? = some (fOwn false i e sz cs q)) (h0 : 0 < q)
    (h : ∀ g, i.a = some ⟨g, 0, none⟩ → q ≤ i.c → i.c ≤ maxLen → DrawW (∀ a w, Den E (.mk T n c B M F) a w → (Code.region id ops true).wp E.P (postD E K) a w)) :
    DrawW (∀ a w, Den E (.mk T n c B M F) a w → (Code.region id ops true).wp E.P (postD E K) a w) := by
  refine ⟨fun a w hd => ?_⟩
  obtain ⟨A, hW, hT⟩ := hd
  rcases own_cases (hW.nth k1 hF).1 with ⟨_, h2, _⟩ | ⟨g, cur, h2, _, h3, h4, _⟩
  · omega
  · exact (h g h2 h3 h4).out a w ⟨A, hW, hT⟩

theorem stop_own (k1 : Nat) {i : Sl} {e sz q : Nat} {cs : List Value} (hF : F[k1]? = some (fOwn false i e sz cs q)) (h0 : 0 < q)
    (h : ∀ g, i.a = some ⟨g, 0, none⟩ → q ≤ i.c → i.c ≤ maxLen → OpW (opStop E o next T n c B M F)) : OpW (opStop E o next T n c B M F) := by
  refine ⟨fun A a w hW hT => ?_⟩
  rcases own_cases (hW.nth k1 hF).1 with ⟨_, h2, _⟩ | ⟨g, cur, h2, _, h3, h4, _⟩
  · omega
  · exact (h g h2 h3 h4).out A a w hW hT

/-- An index, the header's address known, in a region that draws. -/
theorem d_idxP {t e : TypeId} {x ix : Operand} {i : Sl} {m0 sz : Nat} {kd : IntKind} {m : Int} {d g : Nat} {agg : Bool} {size : Nat} {zero : List Value} {fs : List (Nat × Nat × Bool)} {ik : Option IntKind} {kk bytes : Nat} {agg2 : Bool} {zero2 : List Value} {fs2 : List (Nat × Nat × Bool)} {el2 : Option TypeId} {ik2 : Option IntKind} {kk2 bytes2 : Nat}
    (hti : ∀ t, TIok E.P t (ti t)) (hop : o.op = .indexAddr t x ix) (hx : evalO T x = some (.v (i.val m0))) (hix : evalO T ix = some (.v (.int kd m)))
    (ht : ti t = .mk agg size zero fs (some e) ik kk bytes) (hte : ti e = .mk agg2 sz zero2 fs2 el2 ik2 kk2 bytes2) (hd : Dst E o d) (hi : i.a = some ⟨g, 0, none⟩) (j : Nat) (hj : m = (j : Int)) (hlt : j < m0) {n0 : Nat} {B0 : List (Nat × TypeId × Nat)}
    (hnext : next (.mk ((d, .v (.pointer (some ⟨g, j * sz, none⟩))) :: T) n c B M F)) :
    OpW (∀ A, ∃ s : SV, (∀ a w, WD E A n0 B0 Ms Fs w → TD E A T n c a w → (execOp a.eval o).run E.P w = .ok (.value (s.den A)) w ∧ s.okT n c w) ∧ (∃ d, Dst E o d ∧ next (.mk ((d, s) :: T) n c B M F))) := by
  refine ⟨fun A => ⟨.v (.pointer (some ⟨g, j * sz, none⟩)), fun a w hW hT => ⟨?_, trivial⟩, d, hd, hnext⟩⟩
  have htt := hti t
  rw [ht] at htt
  obtain ⟨ii, dd, z, e1, e2, e3, e4, e5, e6, e7, e8, e9, e10, e11⟩ := tiSum_parts htt
  have htt2 := hti e
  rw [hte] at htt2
  obtain ⟨ii2, dd2, z2, k1, k2, k3, k4, k5, k6, k7, k8, k9, k10, k11⟩ := tiSum_parts htt2
  have hdd := el_slice e8
  subst hj
  have hx' : a.eval x = .slice (some ⟨g, 0, none⟩) m0 i.c := by rw [(evalO_sound hT hx).1]; simp [SV.den, Sl.val, hi]
  have hix' : a.eval ix = .int kd j := (evalO_sound hT hix).1
  simp [execOp, hop, Instr.indexAt, hx', hix', asIntOf, underlying, e2, hdd, run_sizeOf k1, k4, hlt, SV.den]
  unfold Addr.add
  split <;> simp_all

/-- A load out of an own row, in a region that draws. -/
theorem d_loadW {α : Type} {enc : α → List Value} {sz : Nat} (he : Enc enc sz) (k1 : Nat) {xs : List α} {i : Sl} {t e : TypeId} {x : Operand} {g ad d : Nat} {v : Value} {size : Nat} {zero : List Value} {fs : List (Nat × Nat × Bool)} {el : Option TypeId} {ik : Option IntKind} {kk bytes : Nat}
    (hti : ∀ t, TIok E.P t (ti t)) (hop : o.op = .load t x) (hx : evalO T x = some (.v (.pointer (some ⟨g, ad, none⟩)))) (ht : ti t = .mk false size zero fs el ik kk bytes) (hd : Dst E o d)
    (hF : F[k1]? = some (own i e enc sz xs)) (hi : i.a = some ⟨g, 0, none⟩) (j off : Nat) (had : ad = j * sz + off) (hj : j < xs.length) (hv : (enc xs[j])[off]? = some v)
    (hnext : next (.mk ((d, .v v) :: T) n (c + 1) B M F)) : OpW (opD E o Ms Fs next T n c B M F) := by
  refine ⟨opD0.up fun hkf A a w hW hT => ?_⟩
  have htt := hti t
  rw [ht] at htt
  obtain ⟨ii, dd, z, e1, e2, e3, e4, e5, e6, e7, e8, e9, e10, e11⟩ := tiSum_parts htt
  have hx' : a.eval x = .pointer (some ⟨g, ad, none⟩) := (evalO_sound hT hx).1
  have hrd := own_rd (hW.nth k1 hF).1
  obtain ⟨ad0, h1, h2⟩ := hrd.2.2.2 (by omega)
  rw [hi] at h1
  injection h1 with h1
  subst h1
  subst had
  have hc : w.cell? ⟨g, j * sz + off, none⟩ = some v := by
    have := h2 _ _ (cells_at he hj hv)
    have ha : (⟨g, 0, none⟩ : Addr).add (j * sz + off) = ⟨g, j * sz + off, none⟩ := by unfold Addr.add; split <;> simp_all
    rwa [ha] at this
  have hr : (execOp a.eval o).run E.P w = .ok (.value v) w := by
    simp [execOp, hop, hx', Instr.loadAt, Instr.sureAddr, run_loadVar_one (w := w) e2 e3 _ _ hc]
  refine upon_of_value hr ?_
  rw [hd.1]
  exact ⟨_, _, F, hW, fun w2 => (hT.step w2).put (v := .v v) hd.lt trivial, hkf, hnext⟩

/-- A store into an own row, in a region that draws. -/
theorem d_storeW {α : Type} {enc : α → List Value} {sz : Nat} (he : Enc enc sz) (k1 : Nat) {xs : List α} {i : Sl} {t e : TypeId} {x y : Operand} {g ad : Nat} {s : SV} {l : List SV} {sz2 : Nat} {agg : Bool} {zero : List Value} {fs : List (Nat × Nat × Bool)} {el : Option TypeId} {ik : Option IntKind} {kk bytes : Nat}
    (hti : ∀ t, TIok E.P t (ti t)) (hop : o.op = .store t x y) (hd : o.dst = none) (hx : evalO T x = some (.v (.pointer (some ⟨g, ad, none⟩)))) (hy : evalO T y = some s) (hl : cellsSV s = some l) (ht : ti t = .mk agg sz2 zero fs el ik kk bytes) (hlen : listLen l = sz2)
    (hF : F[k1]? = some (own i e enc sz xs)) (hi : i.a = some ⟨g, 0, none⟩) (j off : Nat) (y0 : α) (had : ad = j * sz + off) (hj : j < xs.length) (hle : Nat.ble (off + sz2) sz = true) (vs : List Value) (hvs : ∀ A, l.map (SV.den A) = vs)
    (hy0 : enc y0 = (enc xs[j]).take off ++ vs ++ (enc xs[j]).drop (off + vs.length)) (hkeep : keepF Fs F → keepF Fs (F.eraseIdx k1))
    (hnext : next (.mk T n (c + 1) B M (own i e enc sz (xs.set j y0) :: F.eraseIdx k1))) : OpW (opD E o Ms Fs next T n c B M F) := by
  refine ⟨opD0.up fun hkf A a w hW hT => ?_⟩
  have hown := (hW.nth k1 hF).1
  have htt := hti t
  rw [ht] at htt
  obtain ⟨ii, dd, z, e1, e2, e3, e4, e5, e6, e7, e8, e9, e10, e11⟩ := tiSum_parts htt
  obtain ⟨h1, h2⟩ := evalO_sound hT hy
  have h3 : a.eval x = .pointer (some ⟨g, ad, none⟩) := (evalO_sound hT hx).1
  obtain ⟨c1, c2, c3⟩ := cellsSV_spec (A := A) hl h2
  rw [hvs A] at c1
  have hvl : vs.length = sz2 := by rw [← hvs A, List.length_map, ← listLen_eq]; exact hlen
  have hle' := Nat.le_of_ble_eq_true hle
  have hjs : (j + 1) * sz ≤ xs.length * sz := Nat.mul_le_mul_right _ hj
  rw [Nat.succ_mul] at hjs
  subst had
  obtain ⟨w', hrun, hX, hnew⟩ := own_store (P := E.P) (w := w) (off := j * sz + off) (vs := vs) hown hi (by omega) (fun v hv => by
    rw [← hvs A] at hv
    obtain ⟨q, hq, rfl⟩ := List.mem_map.1 hv
    exact c3 q hq)
  rw [← cells_set he hj (by omega) hy0] at hnew
  have hr : (execOp a.eval o).run E.P w = .ok .skip w' := by
    have hcs : (s.den A).cells.size = ii.size := by
      have : (s.den A).cells.toList.length = vs.length := by rw [c1]
      simp at this
      rw [this, hvl, e4]
    simp only [execOp, hop, Instr.storeAt, h1, h3, Instr.sureAddr, Sem.run_bind, Sem.run_pure, Result.andThen_ok, storeVar, run_sizeOf e1]
    rw [if_neg (by simp [hcs]), c1]
    simp only [Result.andThen_ok, hrun]
  refine upon_of_skip hr ?_
  rw [hd]
  refine ⟨_, _, _, ?_, fun w2 => hT.step w2, fun f hf => List.mem_cons_of_mem _ (hkeep hkf f hf), hnext⟩
  show WD E A n B M (fOwn false i e sz (cells enc (xs.set j y0)) (xs.set j y0).length :: F.eraseIdx k1) w'
  have hlen' : (xs.set j y0).length = xs.length := by simp
  rw [hlen']
  exact hW.turnX hF hi hX hnew

end

end Go.Sx

namespace Go.Sx

open Go Go.RowKit

section

variable {E : Env} {ti : Nat → TI} {A : Nat → Nat} {T : List (Nat × SV)} {n c : Nat} {B : List (Nat × TypeId × Nat)} {M Ms : List ((Nat × Nat) × SV)} {F Fs : List Fct} {o : Oper} {next : St → Prop} {a : Act} {w w' : World}

theorem WD.callPG (h : WD E A n B M F w) {k ty sz : Nat} (hk : (k, ty, sz) ∈ B) {cs : List Value} {ix : List Nat} {G : List Fct} (hG : FK F ix G) (hok : grantOk G) (hex : ExtX (fun b => b = A k ∨ gfoot G b) w w') (hnew : Blk w' (A k) ty cs) (hl : cs.length = sz) {L : List Fct} (hL : NewG w w' G L) :
    WD E A n B (storeL k 0 (cs.map .v) M) (L ++ dropAt ix 0 F) w' := by
  obtain ⟨hk1, hk2, hk3, cs0, hk4, hk5⟩ := h.key k ty sz hk
  have hgf : ∀ b, gfoot G b → b < w.heap.size ∧ (∀ k ty sz, (k, ty, sz) ∈ B → A k ≠ b) ∧ (E.w0.heap.size ≤ b ∨ E.X b) ∧ ∀ f ∈ dropAt ix 0 F, ¬ f.foot b := by
    rintro b ⟨g, hg, hb⟩
    obtain ⟨i, hi1, hi2⟩ := FK_at hG g hg
    obtain ⟨h1, h2, h3⟩ := h.fct _ (List.mem_of_getElem? hi2)
    obtain ⟨o1, o2⟩ := grantOk_all hok g hg
    refine ⟨(h2 b hb).1, (h2 b hb).2, h3 o2 b hb, fun f hf hfb => ?_⟩
    obtain ⟨j, hj1, hj2⟩ := dropAt_at ix F 0 f hf
    rw [Nat.zero_add] at hj2
    exact pairwise_pick h.dj (fun e => hj2 (by rw [← e]; exact hi1)) hi2 hj1 (.inl o1) b hb hfb
  have hsub := h.sub (dropAt_sub ix F 0)
  refine ⟨?_, h.inj, ?_, h.a0, h.n0, h.ext.trans' hex (fun i hi e => ?_), ?_, ?_⟩
  · intro k' ty' sz' hk'
    obtain ⟨g1, g2, g3, cs2, g4, g5⟩ := h.key k' ty' sz' hk'
    refine ⟨g1, Nat.lt_of_lt_of_le g2 hex.size, g3, ?_⟩
    by_cases e : A k' = A k
    · rw [e, hk4] at g4
      simp only [Option.some.injEq, Obj.cells.injEq] at g4
      obtain ⟨rfl, rfl, _⟩ := g4
      exact ⟨cs.toArray, by rw [e]; exact hnew, by simp; omega⟩
    · exact ⟨cs2, by rw [hex.block _ g2 (fun h' => h'.elim e (fun h' => (hgf _ h').2.1 k' ty' sz' hk' rfl))]; exact g4, g5⟩
  · intro k' o' v hv
    rw [lookM_storeL] at hv
    split at hv
    · rename_i hc
      obtain ⟨rfl, _, hc3⟩ := hc
      rw [Nat.sub_zero, List.getElem?_map] at hv
      cases hx : cs[o']? with
      | none => rw [hx] at hv; simp at hv
      | some u =>
        rw [hx] at hv; simp at hv; subst hv
        refine ⟨⟨ty, sz, hk⟩, ?_, trivial⟩
        rw [cell_of_row _ _ _ _ _ _ hnew]
        show cs.toArray[o']? = some u
        simpa using hx
    · rename_i hc
      obtain ⟨⟨ty', sz', hk'⟩, g2, g3⟩ := h.mem k' o' v hv
      refine ⟨⟨ty', sz', hk'⟩, ?_, g3⟩
      by_cases e : A k' = A k
      · have ek : k' = k := h.inj _ _ _ _ _ _ hk' hk e
        subst ek
        rw [cell_of_row _ _ _ _ _ _ hk4] at g2
        have : o' < cs0.size := (Array.getElem?_eq_some_iff.1 g2).1
        exact absurd ⟨rfl, Nat.zero_le _, by simp; omega⟩ hc
      · rw [← g2]
        exact World.cell?_of_block (hex.block _ (h.key _ _ _ hk').2.1 (fun h' => h'.elim e (fun h' => (hgf _ h').2.1 _ _ _ hk' rfl)))
  · rcases e with e | e
    · subst e
      rcases hk3 with hk3 | hk3
      · omega
      · exact hk3
    · exact (hgf i e).2.2.1.resolve_left (by omega)
  · intro f hf
    rcases List.mem_append.1 hf with hf | hf
    · obtain ⟨h1, h2, h3⟩ := hL.all f hf
      refine ⟨h1, fun b hb => ⟨(h3 b hb).2, fun k ty sz hk e => ?_⟩, fun _ b hb => ?_⟩
      · rcases (h3 b hb).1 with h4 | h4
        · have := (h.key k ty sz hk).2.1
          omega
        · exact (hgf b h4).2.1 k ty sz hk e
      · rcases (h3 b hb).1 with h4 | h4
        · exact .inl (Nat.le_trans h.ext.size h4)
        · exact (hgf b h4).2.2.1
    · obtain ⟨g1, g2, g3⟩ := hsub.fct f hf
      exact ⟨Fct.keep g1 (fun b hb => (g2 b hb).1) hex (fun b hb e => e.elim (fun e => (g2 b hb).2 k ty sz hk e.symm) (fun e => (hgf b e).2.2.2 f hf hb)), fun b hb => ⟨Nat.lt_of_lt_of_le (g2 b hb).1 hex.size, (g2 b hb).2⟩, g3⟩
  · rw [List.pairwise_append]
    refine ⟨hL.dj, hsub.dj, fun f hf g hg _ b hb hb' => ?_⟩
    rcases ((hL.all f hf).2.2 b hb).1 with h4 | h4
    · have := ((hsub.fct g hg).2.1 b hb').1
      omega
    · exact (hgf b h4).2.2.2 g hg hb'

end

end Go.Sx

namespace Go.Sx

open Go Go.RowKit

theorem bundle_st (G : List Fct) (w w' : World) (hb : ∀ b, (∃ f ∈ G, f.foot b) → w'.heap[b]? = w.heap[b]?) (h : ∀ f ∈ G, f.P w) : ∀ f ∈ G, f.P w' :=
  fun f hf => f.st w w' (fun b hfb => hb b ⟨f, hf, hfb⟩) (h f hf)

/-- All of G hold; nobody writes what they read. -/
abbrev fB (old : Bool) (G : List Fct) : Fct := .other old false (fun b => ∃ f ∈ G, f.foot b) (fun w => ∀ f ∈ G, f.P w) (bundle_st G)

section

variable {E : Env} {A : Nat → Nat} {T : List (Nat × SV)} {n c : Nat} {B : List (Nat × TypeId × Nat)} {M Ms : List ((Nat × Nat) × SV)} {F Fs : List Fct} {o : Oper} {next : St → Prop} {w : World}

/-- What goes into a bundle: a fresh row's reading, a fresh reading, a fresh bundle. -/
inductive DerB : Fct → List Fct → Prop
  | own {i : Sl} {e sz n : Nat} {cs : List Value} : DerB (fOwn false i e sz cs n) [fSl false i sz cs n]
  | sl {i : Sl} {sz n : Nat} {cs : List Value} : DerB (fSl false i sz cs n) [fSl false i sz cs n]
  | b {G : List Fct} : DerB (fB false G) G

theorem DerB.out {f : Fct} {G : List Fct} (h : DerB f G) : f.old = false ∧ (∀ w, f.P w → ∀ g ∈ G, g.P w) ∧ ∀ g ∈ G, ∀ b, g.foot b → f.foot b := by
  cases h with
  | own => exact ⟨rfl, fun w h g hg => by obtain rfl := List.mem_singleton.1 hg; exact own_rd h, fun g hg b hb => by obtain rfl := List.mem_singleton.1 hg; exact hb.2⟩
  | sl => exact ⟨rfl, fun w h g hg => by obtain rfl := List.mem_singleton.1 hg; exact h, fun g hg b hb => by obtain rfl := List.mem_singleton.1 hg; exact hb⟩
  | b => exact ⟨rfl, fun w h g hg => h g hg, fun g hg b hb => ⟨g, hg, hb⟩⟩

/-- A reading as a callee takes it. -/
def Fct.aged : Fct → Fct
  | .sl _ i sz cs n => .sl true i sz cs n
  | .own _ i _ sz cs n => .sl true i sz cs n
  | .other _ _ foot P st => .other true false foot P st

theorem Fct.aged_out : ∀ (f : Fct), (∀ w, f.P w → f.aged.P w) ∧ ∀ b, f.aged.foot b → f.foot b
  | .sl .. => ⟨fun _ h => h, fun _ h => h⟩
  | .own .. => ⟨fun _ h => own_rd h, fun _ h => h.2⟩
  | .other .. => ⟨fun _ h => h, fun _ h => h⟩

end

end Go.Sx

namespace Go.Sx

open Go Go.RowKit

/-- Who knows f may read g. -/
structure Rd (f g : Fct) : Prop where
  p : ∀ w, f.P w → g.P w
  foot : ∀ b, g.foot b → f.foot b

theorem Rd.refl (f : Fct) : Rd f f := ⟨fun _ h => h, fun _ h => h⟩

theorem Rd.trans {f g e : Fct} (h : Rd f g) (k : Rd g e) : Rd f e := ⟨fun w x => k.p w (h.p w x), fun b x => h.foot b (k.foot b x)⟩

theorem Rd.aged (f : Fct) : Rd f f.aged := ⟨f.aged_out.1, f.aged_out.2⟩

theorem Rd.sl {o o' : Bool} {i : Sl} {sz n : Nat} {cs : List Value} : Rd (fSl o i sz cs n) (fSl o' i sz cs n) := ⟨fun _ h => h, fun _ h => h⟩

theorem Rd.own {o o' : Bool} {i : Sl} {e sz n : Nat} {cs : List Value} : Rd (fOwn o i e sz cs n) (fSl o' i sz cs n) := ⟨fun _ h => own_rd h, fun _ h => h.2⟩

theorem ob_st (G : List Fct) (w w' : World) (hb : ∀ b, (∃ f ∈ G, f.foot b) → w'.heap[b]? = w.heap[b]?) (h : (∀ f ∈ G, f.P w ∧ f.isOwn = true ∧ f.old = false) ∧ G.Pairwise Dj) : (∀ f ∈ G, f.P w' ∧ f.isOwn = true ∧ f.old = false) ∧ G.Pairwise Dj :=
  ⟨fun f hf => ⟨f.st w w' (fun b hfb => hb b ⟨f, hf, hfb⟩) (h.1 f hf).1, (h.1 f hf).2⟩, h.2⟩

/-- Rows of the call's own, all of G, no two of which meet. -/
abbrev fO (G : List Fct) : Fct := .other false true (fun b => ∃ f ∈ G, f.foot b) (fun w => (∀ f ∈ G, f.P w ∧ f.isOwn = true ∧ f.old = false) ∧ G.Pairwise Dj) (ob_st G)

/-- The readings of rows, as a callee takes them. -/
abbrev fR (G : List Fct) : Fct := fB true (G.map Fct.aged)

/-- A reading of one of these. -/
def RdIn (G : List Fct) (g : Fct) : Prop := ∃ f ∈ G, Rd f.aged g

theorem RdIn.own {G : List Fct} {o o' : Bool} {i : Sl} {e sz n : Nat} {cs : List Value} (h : fOwn o i e sz cs n ∈ G) : RdIn G (fSl o' i sz cs n) := ⟨_, h, Rd.sl⟩

theorem Rd.ofO {G : List Fct} {g : Fct} (h : RdIn G g) : Rd (fO G) g := by
  obtain ⟨f, hf, h⟩ := h
  exact ⟨fun w hw => h.p w (f.aged_out.1 w (hw.1 f hf).1), fun b hb => ⟨f, hf, f.aged_out.2 b (h.foot b hb)⟩⟩

theorem Rd.ofR {G : List Fct} {g : Fct} (h : RdIn G g) : Rd (fR G) g := by
  obtain ⟨f, hf, h⟩ := h
  exact ⟨fun w hw => h.p w (hw _ (List.mem_map_of_mem hf)), fun b hb => ⟨_, List.mem_map_of_mem hf, h.foot b hb⟩⟩

theorem Rd.O_R {G G' : List Fct} (h : ∀ g ∈ G', g ∈ G) : Rd (fO G) (fR G') := by
  refine ⟨fun w hw g hg => ?_, ?_⟩
  · obtain ⟨f, hf, rfl⟩ := List.mem_map.1 hg
    exact f.aged_out.1 w (hw.1 f (h f hf)).1
  · rintro b ⟨g, hg, hb⟩
    obtain ⟨f, hf, rfl⟩ := List.mem_map.1 hg
    exact ⟨f, h f hf, f.aged_out.2 b hb⟩

theorem Rd.R_R {G G' : List Fct} (h : ∀ g ∈ G', g ∈ G) : Rd (fR G) (fR G') := by
  refine ⟨fun w hw g hg => ?_, ?_⟩
  · obtain ⟨f, hf, rfl⟩ := List.mem_map.1 hg
    exact hw _ (List.mem_map_of_mem (h f hf))
  · rintro b ⟨g, hg, hb⟩
    obtain ⟨f, hf, rfl⟩ := List.mem_map.1 hg
    exact ⟨_, List.mem_map_of_mem (h f hf), hb⟩

/-- Wherever F stands, F' stands. -/
def Shift (F F' : List Fct) : Prop := ∀ (E : Env) (A : Nat → Nat) (n : Nat) (B : List (Nat × TypeId × Nat)) (M : List ((Nat × Nat) × SV)) (w : World), WD E A n B M F w → WD E A n B M F' w

theorem Shift.trans {F F' F'' : List Fct} (h : Shift F F') (k : Shift F' F'') : Shift F F'' := fun E A n B M w x => k E A n B M w (h E A n B M w x)

/-- What goes into a bundle of own rows. -/
inductive DerO : Fct → List Fct → Prop
  | own {i : Sl} {e sz n : Nat} {cs : List Value} : DerO (fOwn false i e sz cs n) [fOwn false i e sz cs n]
  | o {G : List Fct} : DerO (fO G) G

theorem DerO.out {f : Fct} {G : List Fct} (h : DerO f G) : (∀ w, f.P w → (∀ g ∈ G, g.P w ∧ g.isOwn = true ∧ g.old = false) ∧ G.Pairwise Dj) ∧ (∀ g ∈ G, ∀ b, g.foot b → f.foot b) ∧ f.isOwn = true ∧ f.old = false := by
  cases h with
  | own => exact ⟨fun w h => ⟨fun g hg => by obtain rfl := List.mem_singleton.1 hg; exact ⟨h, rfl, rfl⟩, List.pairwise_singleton _ _⟩, fun g hg b hb => by obtain rfl := List.mem_singleton.1 hg; exact hb, rfl, rfl⟩
  | o => exact ⟨fun w h => h, fun g hg b hb => ⟨g, hg, hb⟩, rfl, rfl⟩

/-- Each by its number; a number too great by far stands for rows that are nil. -/
def FJ (F : List Fct) : List Nat → List (List Fct) → Prop
  | [], [] => True
  | j :: jx, G :: r => ((∃ f, F[j]? = some f ∧ DerO f G) ∨ (F.length ≤ j ∧ ∀ g ∈ G, nilFact g)) ∧ FJ F jx r
  | _, _ => False

theorem nil_foot {g : Fct} (h : nilFact g) : ∀ b, ¬ g.foot b := by
  cases g with
  | own old i e sz cs n => obtain ⟨_, rfl, _⟩ := h; rintro b ⟨ad, h, _⟩; cases h
  | _ => exact h.elim

theorem nil_own {g : Fct} (h : nilFact g) : g.isOwn = true := by
  cases g with
  | own => rfl
  | _ => exact h.elim

theorem nil_pairwise {G : List Fct} (h : ∀ g ∈ G, nilFact g) : G.Pairwise Dj := by
  rw [List.pairwise_iff_getElem]
  intro i j hi hj _ _ b hb
  exact (nil_foot (h _ (List.getElem_mem hi)) b hb).elim

theorem FJ_len {F : List Fct} : ∀ {ix : List Nat} {Gs : List (List Fct)}, FJ F ix Gs → ix.length = Gs.length
  | [], [], _ => rfl
  | [], _ :: _, h => h.elim
  | _ :: _, [], h => h.elim
  | _ :: _, _ :: _, h => by simp [FJ_len h.2]

theorem FJ_get {F : List Fct} : ∀ {ix : List Nat} {Gs : List (List Fct)}, FJ F ix Gs → ∀ (p j : Nat) (G : List Fct), ix[p]? = some j → Gs[p]? = some G → (∃ f, F[j]? = some f ∧ DerO f G) ∨ ∀ g ∈ G, nilFact g
  | [], _, _, p, j, G, h, _ => by simp at h
  | _ :: _, [], h, _, _, _, _, _ => h.elim
  | i :: ix, G :: r, h, p, j, G', h1, h2 => by
    cases p with
    | zero =>
      simp at h1 h2
      subst h1; subst h2
      exact h.1.imp id (·.2)
    | succ p => exact FJ_get h.2 p j G' (by simpa using h1) (by simpa using h2)

section

variable {E : Env} {A : Nat → Nat} {T : List (Nat × SV)} {n c : Nat} {B : List (Nat × TypeId × Nat)} {M Ms : List ((Nat × Nat) × SV)} {F F' Fs : List Fct} {o : Oper} {next : St → Prop} {w : World}

theorem Shift.splitO (k : Nat) {L G G' : List Fct} (hk : F[k]? = some (fO G)) (hp : G.Perm (L ++ G')) : Shift F (L ++ fO G' :: F.eraseIdx k) := by
  intro E A n B M w h
  obtain ⟨⟨h1, hpw⟩, h2, h3⟩ := h.fct _ (List.mem_of_getElem? hk)
  have hsub := h.sub (eraseIdx_sub F k)
  have hdj := pairwise_nth_erase h.dj hk
  have hpw' := (hp.pairwise_iff (fun h => Dj.symm h)).1 hpw
  rw [List.pairwise_append] at hpw'
  obtain ⟨q1, q2, q3⟩ := hpw'
  have hL : ∀ f ∈ L, f ∈ G := fun f hf => hp.mem_iff.2 (List.mem_append_left _ hf)
  have hG' : ∀ f ∈ G', f ∈ G := fun f hf => hp.mem_iff.2 (List.mem_append_right _ hf)
  refine ⟨h.key, h.inj, h.mem, h.a0, h.n0, h.ext, fun f hf => ?_, ?_⟩
  · rcases List.mem_append.1 hf with hf | hf
    · exact ⟨(h1 f (hL f hf)).1, fun b hb => h2 b ⟨f, hL f hf, hb⟩, fun _ b hb => h3 rfl b ⟨f, hL f hf, hb⟩⟩
    · rcases List.mem_cons.1 hf with rfl | hf
      · refine ⟨⟨fun g hg => h1 g (hG' g hg), q2⟩, ?_, ?_⟩
        · rintro b ⟨g, hg, hb⟩; exact h2 b ⟨g, hG' g hg, hb⟩
        · rintro _ b ⟨g, hg, hb⟩; exact h3 rfl b ⟨g, hG' g hg, hb⟩
      · exact hsub.fct f hf
  · rw [List.pairwise_append]
    refine ⟨q1, ?_, fun f hf g hg ho b hb hb' => ?_⟩
    · rw [List.pairwise_cons]
      refine ⟨fun f hf ho b hb hb' => ?_, hsub.dj⟩
      obtain ⟨g, hg, hgb⟩ := hb
      exact hdj f hf (.inl rfl) b ⟨g, hG' g hg, hgb⟩ hb'
    · rcases List.mem_cons.1 hg with rfl | hg
      · obtain ⟨g, hg, hgb⟩ := hb'
        exact q3 f hf g hg (.inl (h1 f (hL f hf)).2.1) b hb hgb
      · exact hdj g hg (.inl rfl) b ⟨f, hL f hf, hb⟩ hb'

theorem Shift.joinO (ix : List Nat) {Gs : List (List Fct)} (hG : FJ F ix Gs) (hix : nodupB ix = true) {G : List Fct} (hp : Gs.flatten.Perm G) : Shift F (fO G :: dropAt ix 0 F) := by
  intro E A n B M w h
  have hsub := h.sub (dropAt_sub ix F 0)
  have hnd := nodupB_ok hix
  have hlen := FJ_len hG
  have hmem : ∀ g ∈ Gs.flatten, g.isOwn = true ∧ g.old = false ∧ ((∃ i ∈ ix, ∃ f, F[i]? = some f ∧ f.isOwn = true ∧ f.old = false ∧ g.P w ∧ ∀ b, g.foot b → f.foot b) ∨ nilFact g) := by
    intro g hg
    obtain ⟨G0, h0, hg0⟩ := List.mem_flatten.1 hg
    obtain ⟨p, hpp⟩ := List.getElem?_of_mem h0
    have hplt : p < ix.length := by rw [hlen]; exact (List.getElem?_eq_some_iff.1 hpp).1
    rcases FJ_get hG p ix[p] G0 (List.getElem?_eq_getElem hplt) hpp with ⟨f, hf, hd⟩ | hn
    · obtain ⟨d1, d2, d3, d4⟩ := hd.out
      have hfw := (h.nth _ hf).1
      exact ⟨((d1 w hfw).1 g hg0).2.1, ((d1 w hfw).1 g hg0).2.2, .inl ⟨_, List.getElem_mem hplt, f, hf, d3, d4, ((d1 w hfw).1 g hg0).1, d2 g hg0⟩⟩
    · exact ⟨nil_own (hn g hg0), (nilFact_ok (hn g hg0) w).2.2, .inr (hn g hg0)⟩
  have hpw : Gs.flatten.Pairwise Dj := by
    rw [List.pairwise_flatten]
    refine ⟨fun l hl => ?_, ?_⟩
    · obtain ⟨p, hpp⟩ := List.getElem?_of_mem hl
      have hplt : p < ix.length := by rw [hlen]; exact (List.getElem?_eq_some_iff.1 hpp).1
      rcases FJ_get hG p ix[p] l (List.getElem?_eq_getElem hplt) hpp with ⟨f, hf, hd⟩ | hn
      · exact (hd.out.1 w (h.nth _ hf).1).2
      · exact nil_pairwise hn
    · rw [List.pairwise_iff_getElem]
      intro p q hp' hq' hpq x hx y hy _ b hb hb'
      have hpi : p < ix.length := by rw [hlen]; exact hp'
      have hqi : q < ix.length := by rw [hlen]; exact hq'
      rcases FJ_get hG p ix[p] _ (List.getElem?_eq_getElem hpi) (List.getElem?_eq_getElem hp') with ⟨f, hf, hd⟩ | hn
      · rcases FJ_get hG q ix[q] _ (List.getElem?_eq_getElem hqi) (List.getElem?_eq_getElem hq') with ⟨f', hf', hd'⟩ | hn
        · have hne : ix[p] ≠ ix[q] := List.pairwise_iff_getElem.1 hnd p q hpi hqi hpq
          exact pairwise_pick h.dj hne hf hf' (.inl hd.out.2.2.1) b (hd.out.2.1 x hx b hb) (hd'.out.2.1 y hy b hb')
        · exact nil_foot (hn y hy) b hb'
      · exact nil_foot (hn x hx) b hb
  have hm' : ∀ g ∈ G, g ∈ Gs.flatten := fun g hg => hp.mem_iff.2 hg
  refine ⟨hsub.key, hsub.inj, hsub.mem, hsub.a0, hsub.n0, hsub.ext, fun f hf => ?_, ?_⟩
  · rcases List.mem_cons.1 hf with rfl | hf
    · refine ⟨⟨fun g hg => ?_, (hp.pairwise_iff (fun h => Dj.symm h)).1 hpw⟩, ?_, ?_⟩
      · obtain ⟨m1, m2, m3⟩ := hmem g (hm' g hg)
        refine ⟨?_, m1, m2⟩
        rcases m3 with ⟨i, _, f, _, _, _, hgP, _⟩ | hn
        · exact hgP
        · exact (nilFact_ok hn w).1
      · rintro b ⟨g, hg, hb⟩
        rcases (hmem g (hm' g hg)).2.2 with ⟨i, _, f, hf, _, _, _, hfoot⟩ | hn
        · exact (h.fct _ (List.mem_of_getElem? hf)).2.1 b (hfoot b hb)
        · exact (nil_foot hn b hb).elim
      · rintro _ b ⟨g, hg, hb⟩
        rcases (hmem g (hm' g hg)).2.2 with ⟨i, _, f, hf, _, hold, _, hfoot⟩ | hn
        · exact (h.fct _ (List.mem_of_getElem? hf)).2.2 hold b (hfoot b hb)
        · exact (nil_foot hn b hb).elim
    · exact hsub.fct f hf
  · rw [List.pairwise_cons]
    refine ⟨fun r hr ho b hb hb' => ?_, hsub.dj⟩
    obtain ⟨g, hg, hgb⟩ := hb
    rcases (hmem g (hm' g hg)).2.2 with ⟨i, hi, f, hf, hown, _, _, hfoot⟩ | hn
    · obtain ⟨j, hj1, hj2⟩ := dropAt_at ix F 0 r hr
      rw [Nat.zero_add] at hj2
      exact pairwise_pick h.dj (fun e => hj2 (by rw [← e]; exact hi)) hf hj1 (.inl hown) b (hfoot b hgb) hb'
    · exact nil_foot hn b hgb

/-- Facts are dropped. -/
theorem Shift.pick (ix : List Nat) (hF : FW F ix F') (hix : nodupB ix = true) : Shift F F' := fun _ _ _ _ _ _ h => h.pick ix hF hix

theorem weak_shift {s : St} (h : Shift F F') (k : Weak E (.mk T n c B M F') s) : Weak E (.mk T n c B M F) s := fun a w ⟨A, hW, hT⟩ => k a w ⟨A, h E A n B M w hW, hT⟩

theorem ret_shift {X : (Nat → Nat) → World → Prop} (h : Shift F F') (k : RetW (∀ A w, WD E A n B M F' w → X A w)) : RetW (∀ A w, WD E A n B M F w → X A w) := ⟨fun A w hW => k.out A w (h E A n B M w hW)⟩

theorem draw_shift {X : Act → World → Prop} (h : Shift F F') (k : DrawW (∀ a w, Den E (.mk T n c B M F') a w → X a w)) : DrawW (∀ a w, Den E (.mk T n c B M F) a w → X a w) := ⟨fun a w ⟨A, hW, hT⟩ => k.out a w ⟨A, h E A n B M w hW, hT⟩⟩

/-- A fact for a call, read out of fact k. -/
theorem WD.get (h : WD E A n B M F w) (k : Nat) {f g : Fct} (hk : F[k]? = some f) (r : Rd f g) : g.P w ∧ ∀ b, g.foot b → b < w.heap.size :=
  ⟨r.p w (h.nth k hk).1, fun b hb => (h.nth k hk).2 b (r.foot b hb)⟩

theorem rdVia {F : List Fct} (k : Nat) {f : Fct} (hk : F[k]? = some f) {o : Bool} {i : Sl} {sz m : Nat} {cs : List Value} (r : Rd f (fSl o i sz cs m)) : ∀ w, (∀ f ∈ F, f.P w) → RdS w i sz cs m :=
  fun w h => r.p w (h f (List.mem_of_getElem? hk))

end

end Go.Sx

namespace Go.Proofs.YtchkcjeeknfchaaGreatDoor

open Go Go.Sx Go.RowKit

structure Waiter where
  t : Int
  n : Int
  deriving DecidableEq

def cWaiter (l : Waiter) : List Value := [.int .i64 l.t, .int .i64 l.n]

theorem encWaiter : Enc cWaiter 2 := ⟨fun _ => rfl, fun _ u hu => by simp [cWaiter] at hu; rcases hu with rfl | rfl <;> rfl⟩

def Waiter0 : Waiter := ⟨0, 0⟩

structure Sem where
  free : Int
  limit : Int
  queue : List Waiter
  deriving DecidableEq

structure Once where
  state : Int
  owner : Int
  value : Int
  waits : List Int
  deriving DecidableEq

structure Group where
  count : Int
  waits : List Int
  deriving DecidableEq

structure Barrier where
  parties : Int
  round : Int
  waits : List Int
  deriving DecidableEq

def semV (m : Sem) (q : Sl) : Value := .agg #[.int .i64 m.free, .int .i64 m.limit, q.val m.queue.length]

def onceV (m : Once) (q : Sl) : Value := .agg #[.int .i64 m.state, .int .i64 m.owner, .int .i64 m.value, q.val m.waits.length]

def groupV (m : Group) (q : Sl) : Value := .agg #[.int .i64 m.count, q.val m.waits.length]

def barrierV (m : Barrier) (q : Sl) : Value := .agg #[.int .i64 m.parties, .int .i64 m.round, q.val m.waits.length]

/-- A row and the rows of its elements. -/
def nestO {α : Type} (h : Sl) (ty : TypeId) (enc : α → List Value) (sz : Nat) (inner : α → List Fct) (xs : List α) : List Fct := own h ty enc sz xs :: xs.flatMap inner

theorem nest_in {α : Type} {h : Sl} {ty : TypeId} {enc : α → List Value} {sz : Nat} {inner : α → List Fct} {xs : List α} {j : Nat} (hj : j < xs.length) {f : Fct} (hf : f ∈ inner xs[j]) : f ∈ nestO h ty enc sz inner xs :=
  List.mem_cons_of_mem _ (List.mem_flatMap.2 ⟨_, List.getElem_mem hj, hf⟩)

theorem nest_h {α : Type} {h : Sl} {ty : TypeId} {enc : α → List Value} {sz : Nat} {inner : α → List Fct} {xs : List α} : RdIn (nestO h ty enc sz inner xs) (slo h enc sz xs) := RdIn.own (List.mem_cons_self ..)

structure SemH where
  m : Sem
  q : Sl

structure OnceH where
  m : Once
  q : Sl

structure GroupH where
  m : Group
  q : Sl

structure BarrierH where
  m : Barrier
  q : Sl

structure ChanH where
  m : Chan
  q0 : Sl
  q1 : Sl
  q2 : Sl

def cSemH (x : SemH) : List Value := [.int .i64 x.m.free, .int .i64 x.m.limit, x.q.val x.m.queue.length]

def cOnceH (x : OnceH) : List Value := [.int .i64 x.m.state, .int .i64 x.m.owner, .int .i64 x.m.value, x.q.val x.m.waits.length]

def cGroupH (x : GroupH) : List Value := [.int .i64 x.m.count, x.q.val x.m.waits.length]

def cBarrierH (x : BarrierH) : List Value := [.int .i64 x.m.parties, .int .i64 x.m.round, x.q.val x.m.waits.length]

def cChanH (x : ChanH) : List Value := [.int .i64 x.m.room, x.q0.val x.m.items.length, x.q1.val x.m.senders.length, x.q2.val x.m.getters.length, .bool x.m.closed]

theorem encSemH : Enc cSemH 3 := ⟨fun _ => rfl, fun _ u hu => by simp [cSemH] at hu; rcases hu with rfl | rfl | rfl <;> rfl⟩

theorem encOnceH : Enc cOnceH 4 := ⟨fun _ => rfl, fun _ u hu => by simp [cOnceH] at hu; rcases hu with rfl | rfl | rfl | rfl <;> rfl⟩

theorem encGroupH : Enc cGroupH 2 := ⟨fun _ => rfl, fun _ u hu => by simp [cGroupH] at hu; rcases hu with rfl | rfl <;> rfl⟩

theorem encBarrierH : Enc cBarrierH 3 := ⟨fun _ => rfl, fun _ u hu => by simp [cBarrierH] at hu; rcases hu with rfl | rfl | rfl <;> rfl⟩

theorem encChanH : Enc cChanH 5 := ⟨fun _ => rfl, fun _ u hu => by simp [cChanH] at hu; rcases hu with rfl | rfl | rfl | rfl | rfl <;> rfl⟩

def semO (x : SemH) : List Fct := [own x.q 161 cWaiter 2 x.m.queue]

def onceO (x : OnceH) : List Fct := [own x.q 3 cInt 1 x.m.waits]

def groupO (x : GroupH) : List Fct := [own x.q 3 cInt 1 x.m.waits]

def barrierO (x : BarrierH) : List Fct := [own x.q 3 cInt 1 x.m.waits]

def chanO (x : ChanH) : List Fct := [own x.q0 3 cInt 1 x.m.items, own x.q1 164 cLet 2 x.m.senders, own x.q2 3 cInt 1 x.m.getters]

def semsO (h : Sl) (xs : List SemH) : List Fct := nestO h 85 cSemH 3 semO xs

def oncesO (h : Sl) (xs : List OnceH) : List Fct := nestO h 98 cOnceH 4 onceO xs

def groupsO (h : Sl) (xs : List GroupH) : List Fct := nestO h 88 cGroupH 2 groupO xs

def barriersO (h : Sl) (xs : List BarrierH) : List Fct := nestO h 91 cBarrierH 3 barrierO xs

def chansO (h : Sl) (xs : List ChanH) : List Fct := nestO h 95 cChanH 5 chanO xs

theorem semsO_0 (h : Sl) (xs : List SemH) (j : Nat) (hj : j < xs.length) : RdIn (semsO h xs) (slo (xs[j]).q cWaiter 2 (xs[j]).m.queue) := RdIn.own (nest_in hj (List.mem_cons_self ..))

theorem oncesO_0 (h : Sl) (xs : List OnceH) (j : Nat) (hj : j < xs.length) : RdIn (oncesO h xs) (slo (xs[j]).q cInt 1 (xs[j]).m.waits) := RdIn.own (nest_in hj (List.mem_cons_self ..))

theorem groupsO_0 (h : Sl) (xs : List GroupH) (j : Nat) (hj : j < xs.length) : RdIn (groupsO h xs) (slo (xs[j]).q cInt 1 (xs[j]).m.waits) := RdIn.own (nest_in hj (List.mem_cons_self ..))

theorem barriersO_0 (h : Sl) (xs : List BarrierH) (j : Nat) (hj : j < xs.length) : RdIn (barriersO h xs) (slo (xs[j]).q cInt 1 (xs[j]).m.waits) := RdIn.own (nest_in hj (List.mem_cons_self ..))

theorem chansO_0 (h : Sl) (xs : List ChanH) (j : Nat) (hj : j < xs.length) : RdIn (chansO h xs) (slo (xs[j]).q0 cInt 1 (xs[j]).m.items) := RdIn.own (nest_in hj (List.mem_cons_self ..))

theorem chansO_1 (h : Sl) (xs : List ChanH) (j : Nat) (hj : j < xs.length) : RdIn (chansO h xs) (slo (xs[j]).q1 cLet 2 (xs[j]).m.senders) := RdIn.own (nest_in hj (List.mem_cons_of_mem _ (List.mem_cons_self ..)))

theorem chansO_2 (h : Sl) (xs : List ChanH) (j : Nat) (hj : j < xs.length) : RdIn (chansO h xs) (slo (xs[j]).q2 cInt 1 (xs[j]).m.getters) := RdIn.own (nest_in hj (List.mem_cons_of_mem _ (List.mem_cons_of_mem _ (List.mem_cons_self ..))))

/-- What is left behind all of a list. -/
def szList {α : Type} (f : α → Int → Int) : List α → Int → Int
  | [], l => l
  | x :: r, l => if f x l < 0 then -1 else szList f r (f x l)

def szAll {α : Type} (f : α → Int → Int) (xs : List α) (l : Int) : Int := if l - xs.length < 0 then -1 else szList f xs (l - xs.length)

theorem szList_all {α : Type} {f : α → Int → Int} {P : α → Prop} (hf : ∀ x l, l ≤ 1048576 → ¬ f x l < 0 → P x ∧ f x l ≤ l) : ∀ {xs : List α} {l : Int}, l ≤ 1048576 → ¬ szList f xs l < 0 → (∀ x ∈ xs, P x) ∧ szList f xs l ≤ l
  | [], l, hl, h => ⟨by simp, Int.le_refl _⟩
  | x :: r, l, hl, h => by
    simp only [szList] at h ⊢
    split at h
    · omega
    · rename_i h1
      obtain ⟨g1, g2⟩ := hf x l hl h1
      obtain ⟨k1, k2⟩ := szList_all hf (Int.le_trans g2 hl) h
      rw [if_neg h1]
      refine ⟨fun y hy => ?_, Int.le_trans k2 g2⟩
      rcases List.mem_cons.1 hy with rfl | hy
      · exact g1
      · exact k1 y hy

theorem szAll_all {α : Type} {f : α → Int → Int} {P : α → Prop} (hf : ∀ x l, l ≤ 1048576 → ¬ f x l < 0 → P x ∧ f x l ≤ l) {xs : List α} {l : Int} (hl : l ≤ 1048576) (h : ¬ szAll f xs l < 0) : xs.length ≤ 1048576 ∧ (∀ x ∈ xs, P x) ∧ szAll f xs l ≤ l := by
  unfold szAll at h ⊢
  split at h
  · omega
  · rename_i h1
    obtain ⟨k1, k2⟩ := szList_all hf (l := l - xs.length) (by omega) h
    rw [if_neg h1]
    exact ⟨by omega, k1, by omega⟩

theorem map_take_succ {α β : Type} {f : α → β} {xs : List α} {ys : List β} {k : Nat} (hk : k < xs.length) (h : ys = (xs.map f).take k) {y : β} (hy : y = f xs[k]) : ys ++ [y] = (xs.map f).take (k + 1) := by
  subst hy; subst h
  rw [List.take_succ_eq_append_getElem (by simpa using hk), List.getElem_map]

end Go.Proofs.YtchkcjeeknfchaaGreatDoor

namespace Go.Proofs.YtchkcjeeknfchaaGreatDoor

open Go Go.Sx Go.RowKit

theorem e_wrap {x : Int} (h0 : -9223372036854775808 ≤ x) (h : x < 9223372036854775808) : IntKind.i64.wrap x = x := by
  rw [IntKind.wrap_i64]; omega

theorem e_succ (k n : Nat) (h : k < n) (hn : n ≤ 4611686018427387904) : IntKind.i64.wrap ((k : Int) + 1) = ((k + 1 : Nat) : Int) := by
  rw [IntKind.wrap_i64]; omega

theorem e_take {α : Type} {xs ys : List α} {k : Nat} (h : xs.take k = ys.take k) (hx : k < xs.length) (hy : k < ys.length) : (xs[k] = ys[k] → xs.take (k + 1) = ys.take (k + 1)) ∧ (xs[k] ≠ ys[k] → xs ≠ ys) := by
  refine ⟨fun e => by rw [List.take_succ_eq_append_getElem hx, List.take_succ_eq_append_getElem hy, h, e], fun e he => ?_⟩
  subst he
  exact e rfl

/-- What is left when k more are counted; -1 if nothing. -/
def szN (k : Nat) (left : Int) : Int := if left - k < 0 then -1 else left - k

set_option maxRecDepth 100000 in
theorem szIntS_c (i : Sl) (xs : List Int) (left : Int) (w : World) (h : At w [slo i cInt 1 xs]) (h0 : -1 ≤ left) (h1 : left ≤ 1048576) :
    Calls Tryz.prog 16 #[i.val xs.length, .int .i64 left] w (Ret w fun v L => v = .int .i64 (szN xs.length left) ∧ L = []) := by
  obtain ⟨⟨⟨_, b1, b2, _⟩, _⟩, _⟩ := h
  unfold maxLen at b2
  have e : IntKind.i64.wrap (left - (xs.length : Int)) = left - xs.length := e_wrap (by omega) (by omega)
  refine calls2 Tryz.func16 rfl tabOk w _ rfl _ rfl [] trivial trivial _ _ (by decide) ?_
  refine CaseB.mk (fun h => ?_) (fun h => ?_)
  · rw [e] at h
    have h2 : left - (xs.length : Int) < 0 := by simpa using h
    exact retw [] ⟨by rw [szN, if_pos h2], rfl⟩ trivial rfl trivial (fun _ => rfl)
  · rw [e] at h
    have h2 : ¬ left - (xs.length : Int) < 0 := by simpa using h
    refine retw [] ⟨by rw [szN, if_neg h2], rfl⟩ trivial rfl trivial (fun _ => ?_)
    simp only [resV, SV.den, e]

set_option maxRecDepth 100000 in
theorem toIntS_c (i : Sl) (xs : List Int) (w : World) (h : At w [slo i cInt 1 xs]) (hb : xs.length ≤ 1048576) :
    Calls Tryz.prog 24 #[i.val xs.length] w (Ret w fun v L => ∃ y : Sl, v = y.val xs.length ∧ L = [own y 3 cInt 1 xs]) := by
  refine calls1 Tryz.func24 rfl tabOk w _ rfl _ rfl _ h ⟨rfl, rfl, trivial⟩ _ (by decide) ?_
  refine stop_make encInt 0 tabOk rfl rfl rfl rfl rfl (by decide) ⟨rfl, rfl⟩ xs.length rfl (by first | omega | (simp; done) | (simp; omega) | (unfold maxLen; omega) | (unfold maxLen; simp; done) | (unfold maxLen; simp; omega)) (by first | omega | (simp; done) | (simp; omega) | (unfold maxLen; omega) | (unfold maxLen; simp; done) | (unfold maxLen; simp; omega)) (fun y => ?_)
  refine LoopW.mk ⟨{ k : Nat // k ≤ xs.length },
    fun k => .mk [(0, .v (i.val xs.length)), (3, .v (y.val (xs.take k.1 ++ List.replicate (xs.length - k.1) 0).length)), (4, .v (.int .i64 (k.1 : Int)))] 0 0 [] [] [own y 3 cInt 1 (xs.take k.1 ++ List.replicate (xs.length - k.1) 0), slo i cInt 1 xs],
    fun k => xs.length - k.1, ⟨0, Nat.zero_le _⟩, ?_, ?_⟩
  · refine weak_mk [0, 1] ?_ ?_ ?_ ?_ ?_ rfl rfl
    · repeat (first | exact trivial | refine ⟨⟨_, rfl, (by first | exact .of rfl | exact .lit rfl | exact .of (by first | ((simp))) | exact .lit (by first | ((simp)))), (by first | exact trivial | exact Nat.le_of_ble_eq_true rfl | exact small1 rfl)⟩, ?_⟩)
    · repeat (first | exact trivial | refine ⟨⟨(by first | exact .head _ | exact .tail _ (.head _) | exact .tail _ (.tail _ (.head _)) | exact .tail _ (.tail _ (.tail _ (.head _))) | exact .tail _ (.tail _ (.tail _ (.tail _ (.head _)))) | exact .tail _ (.tail _ (.tail _ (.tail _ (.tail _ (.head _))))) | exact .tail _ (.tail _ (.tail _ (.tail _ (.tail _ (.tail _ (.head _)))))) | exact .tail _ (.tail _ (.tail _ (.tail _ (.tail _ (.tail _ (.tail _ (.head _))))))) | exact .tail _ (.tail _ (.tail _ (.tail _ (.tail _ (.tail _ (.tail _ (.tail _ (.head _)))))))) | exact .tail _ (.tail _ (.tail _ (.tail _ (.tail _ (.tail _ (.tail _ (.tail _ (.tail _ (.head _)))))))))), Nat.le_of_ble_eq_true rfl⟩, ?_⟩)
    · repeat (first | exact trivial | refine ⟨⟨_, rfl, (by first | exact .of rfl | exact .lit rfl | exact .of (by first | ((simp))) | exact .lit (by first | ((simp)))), (by first | exact trivial | exact Nat.le_of_ble_eq_true rfl | exact small1 rfl)⟩, ?_⟩)
    · repeat (first | exact trivial | refine ⟨⟨_, rfl⟩, ?_⟩)
    · repeat (first | exact trivial | refine ⟨.inl ⟨_, rfl, (by first | rfl | ((simp)))⟩, ?_⟩ | refine ⟨.inr ⟨Nat.le_of_ble_eq_true rfl, rfl, rfl, rfl, rfl⟩, ?_⟩)
  · rintro ⟨k, hk⟩
    refine CaseB.mk (fun h => ?_) (fun h => ?_)
    · have hlt : k < xs.length := by simpa using h
      have hT : (xs.take k ++ List.replicate (xs.length - k) 0).set k xs[k] = xs.take (k + 1) ++ List.replicate (xs.length - (k + 1)) 0 := by
        rw [List.set_append_right _ _ (by simp; omega), List.take_succ_eq_append_getElem hlt, show k - (List.take k xs).length = 0 by simp; omega, show xs.length - k = (xs.length - (k + 1)) + 1 by omega, List.replicate_succ, List.append_assoc]
        rfl
      refine stop_idx encInt tabOk rfl rfl rfl rfl rfl ⟨rfl, rfl⟩ (by first | exact rdAt 0 rfl | exact rdOwnAt 0 rfl | exact rdAt 1 rfl | exact rdOwnAt 1 rfl | exact rdAt 2 rfl | exact rdOwnAt 2 rfl | exact rdAt 3 rfl | exact rdOwnAt 3 rfl | exact rdAt 4 rfl | exact rdOwnAt 4 rfl | exact rdAt 5 rfl | exact rdOwnAt 5 rfl | exact rdAt 6 rfl | exact rdOwnAt 6 rfl | exact rdAt 7 rfl | exact rdOwnAt 7 rfl | exact rdAt 8 rfl | exact rdOwnAt 8 rfl | exact rdAt 9 rfl | exact rdOwnAt 9 rfl | exact rdAt 10 rfl | exact rdOwnAt 10 rfl | exact rdAt 11 rfl | exact rdOwnAt 11 rfl | exact rdAt 12 rfl | exact rdOwnAt 12 rfl | exact rdAt 13 rfl | exact rdOwnAt 13 rfl | exact rdAt 14 rfl | exact rdOwnAt 14 rfl | exact rdAt 15 rfl | exact rdOwnAt 15 rfl | exact rdAt 16 rfl | exact rdOwnAt 16 rfl | exact rdAt 17 rfl | exact rdOwnAt 17 rfl | exact rdAt 18 rfl | exact rdOwnAt 18 rfl | exact rdAt 19 rfl | exact rdOwnAt 19 rfl | exact rdAt 20 rfl | exact rdOwnAt 20 rfl | exact rdAt 21 rfl | exact rdOwnAt 21 rfl | exact rdAt 22 rfl | exact rdOwnAt 22 rfl | exact rdAt 23 rfl | exact rdOwnAt 23 rfl) k rfl (by first | omega | (simp; done) | (simp; omega) | (unfold maxLen; omega) | (unfold maxLen; simp; done) | (unfold maxLen; simp; omega)) (fun ad => ?_)
      refine stop_idxW encInt 0 tabOk rfl rfl rfl rfl rfl ⟨rfl, rfl⟩ rfl (by first | rfl | (simp; done)) k rfl (by first | omega | (simp; done) | (simp; omega) | (unfold maxLen; omega) | (unfold maxLen; simp; done) | (unfold maxLen; simp; omega)) (fun g hg => ?_)
      refine stop_storeW encInt 0 tabOk rfl rfl rfl rfl rfl rfl rfl rfl hg k 0 (xs[k]) rfl (by first | omega | (simp; done) | (simp; omega) | (unfold maxLen; omega) | (unfold maxLen; simp; done) | (unfold maxLen; simp; omega)) rfl [.int .i64 (xs[k])] (fun _ => rfl) rfl ?_
      have hw := e_succ k _ hlt (by omega)
      refine ⟨⟨k + 1, by omega⟩, ?_, by simp; omega⟩
      refine weak_mk [0, 1] ?_ ?_ ?_ ?_ ?_ rfl rfl
      · repeat (first | exact trivial | refine ⟨⟨_, rfl, (by first | exact .of rfl | exact .lit rfl | exact .of (by first | ((first | (rw [hT]; done) | (simp only; done) | exact congrArg (fun z => SV.v (Value.int .i64 z)) hw | (rw [← hT]; simp)))) | exact .lit (by first | ((first | (rw [hT]; done) | (simp only [hT]; done) | exact congrArg (fun z => SV.v (Value.int .i64 z)) hw | (rw [← hT]; simp))))), (by first | exact trivial | exact Nat.le_of_ble_eq_true rfl | exact small1 rfl)⟩, ?_⟩)
      · repeat (first | exact trivial | refine ⟨⟨(by first | exact .head _ | exact .tail _ (.head _) | exact .tail _ (.tail _ (.head _)) | exact .tail _ (.tail _ (.tail _ (.head _))) | exact .tail _ (.tail _ (.tail _ (.tail _ (.head _)))) | exact .tail _ (.tail _ (.tail _ (.tail _ (.tail _ (.head _))))) | exact .tail _ (.tail _ (.tail _ (.tail _ (.tail _ (.tail _ (.head _)))))) | exact .tail _ (.tail _ (.tail _ (.tail _ (.tail _ (.tail _ (.tail _ (.head _))))))) | exact .tail _ (.tail _ (.tail _ (.tail _ (.tail _ (.tail _ (.tail _ (.tail _ (.head _)))))))) | exact .tail _ (.tail _ (.tail _ (.tail _ (.tail _ (.tail _ (.tail _ (.tail _ (.tail _ (.head _)))))))))), Nat.le_of_ble_eq_true rfl⟩, ?_⟩)
      · repeat (first | exact trivial | refine ⟨⟨_, rfl, (by first | exact .of rfl | exact .lit rfl | exact .of (by first | ((first | (rw [hT]; done) | (simp only [hT]; done) | exact congrArg (fun z => SV.v (Value.int .i64 z)) hw | (rw [← hT]; simp)))) | exact .lit (by first | ((first | (rw [hT]; done) | (simp only [hT]; done) | exact congrArg (fun z => SV.v (Value.int .i64 z)) hw | (rw [← hT]; simp))))), (by first | exact trivial | exact Nat.le_of_ble_eq_true rfl | exact small1 rfl)⟩, ?_⟩)
      · repeat (first | exact trivial | refine ⟨⟨_, rfl⟩, ?_⟩)
      · repeat (first | exact trivial | refine ⟨.inl ⟨_, rfl, (by first | rfl | ((first | (rw [hT]; done) | (simp only [hT]; done) | exact congrArg (fun z => SV.v (Value.int .i64 z)) hw | (rw [← hT]; simp))))⟩, ?_⟩ | refine ⟨.inr ⟨Nat.le_of_ble_eq_true rfl, rfl, rfl, rfl, rfl⟩, ?_⟩)
    · have hge : xs.length ≤ k := by simpa using h
      have hT : xs.take k ++ List.replicate (xs.length - k) 0 = xs := by rw [List.take_of_length_le hge, show xs.length - k = 0 by omega]; simp
      exact retw [0] ⟨y, rfl, rfl⟩ ⟨.inl ⟨_, rfl, (by first | rfl | ((simp only [hT])))⟩, trivial⟩ rfl ⟨rfl, trivial⟩ (fun _ => (by first | rfl | ((simp only [hT, resV, SV.den]))))

set_option maxRecDepth 100000 in
theorem eqIntS_c (i j : Sl) (xs ys : List Int) (w : World) (h : At w [slo i cInt 1 xs, slo j cInt 1 ys]) (hb : xs.length ≤ 4294967296) (hb2 : ys.length ≤ 4294967296) :
    Calls Tryz.prog 33 #[i.val xs.length, j.val ys.length] w (Ret w fun v L => v = .bool (decide (xs = ys)) ∧ L = []) := by
  refine calls2 Tryz.func33 rfl tabOk w _ rfl _ rfl _ h ⟨rfl, rfl, rfl, rfl, trivial⟩ _ _ (by decide) ?_
  refine CaseB.mk (fun h => ?_) (fun h => ?_)
  · have hne : xs ≠ ys := by rintro rfl; simp at h
    refine retw [] ⟨?_, rfl⟩ trivial rfl trivial (fun _ => rfl)
    simp [hne]
  · have hl : xs.length = ys.length := by simp at h; omega
    refine LoopW.mk ⟨{ k : Nat // k ≤ xs.length ∧ xs.take k = ys.take k },
      fun p => .mk [(0, .v (i.val xs.length)), (1, .v (j.val ys.length)), (5, .v (.int .i64 p.1))] 0 0 [] [] [slo i cInt 1 xs, slo j cInt 1 ys],
      fun p => xs.length - p.1, ⟨0, Nat.zero_le _, rfl⟩, ?_, ?_⟩
    · refine weak_mk [0, 1] ?_ ?_ ?_ ?_ ?_ rfl rfl
      · repeat (first | exact trivial | refine ⟨⟨_, rfl, (by first | exact .of rfl | exact .lit rfl | exact .of (by first | (rfl)) | exact .lit (by first | (rfl))), (by first | exact trivial | exact Nat.le_of_ble_eq_true rfl | exact small1 rfl)⟩, ?_⟩)
      · repeat (first | exact trivial | refine ⟨⟨(by first | exact .head _ | exact .tail _ (.head _) | exact .tail _ (.tail _ (.head _)) | exact .tail _ (.tail _ (.tail _ (.head _))) | exact .tail _ (.tail _ (.tail _ (.tail _ (.head _)))) | exact .tail _ (.tail _ (.tail _ (.tail _ (.tail _ (.head _))))) | exact .tail _ (.tail _ (.tail _ (.tail _ (.tail _ (.tail _ (.head _)))))) | exact .tail _ (.tail _ (.tail _ (.tail _ (.tail _ (.tail _ (.tail _ (.head _))))))) | exact .tail _ (.tail _ (.tail _ (.tail _ (.tail _ (.tail _ (.tail _ (.tail _ (.head _)))))))) | exact .tail _ (.tail _ (.tail _ (.tail _ (.tail _ (.tail _ (.tail _ (.tail _ (.tail _ (.head _)))))))))), Nat.le_of_ble_eq_true rfl⟩, ?_⟩)
      · repeat (first | exact trivial | refine ⟨⟨_, rfl, (by first | exact .of rfl | exact .lit rfl | exact .of (by first | (rfl)) | exact .lit (by first | (rfl))), (by first | exact trivial | exact Nat.le_of_ble_eq_true rfl | exact small1 rfl)⟩, ?_⟩)
      · repeat (first | exact trivial | refine ⟨⟨_, rfl⟩, ?_⟩)
      · repeat (first | exact trivial | refine ⟨.inl ⟨_, rfl, (by first | rfl | (rfl))⟩, ?_⟩ | refine ⟨.inr ⟨Nat.le_of_ble_eq_true rfl, rfl, rfl, rfl, rfl⟩, ?_⟩)
    · rintro ⟨k, hk, he⟩
      refine CaseB.mk (fun h => ?_) (fun h => ?_)
      · have hlt : k < xs.length := by simpa using h
        have hlt2 : k < ys.length := by omega
        obtain ⟨q1, q2⟩ := e_take he hlt hlt2
        refine draw_start tabOk (by kernel_rfl) (by kernel_rfl) (by kernel_rfl) 200 [] [0, 1] [_, _] trivial trivial ⟨rfl, rfl, trivial⟩ rfl ?_
        refine d_idx (ti := tiOf tab) encInt tabOk rfl rfl rfl rfl rfl ⟨rfl, rfl⟩ (by first | exact rdAt 0 rfl | exact rdOwnAt 0 rfl | exact rdAt 1 rfl | exact rdOwnAt 1 rfl | exact rdAt 2 rfl | exact rdOwnAt 2 rfl | exact rdAt 3 rfl | exact rdOwnAt 3 rfl | exact rdAt 4 rfl | exact rdOwnAt 4 rfl | exact rdAt 5 rfl | exact rdOwnAt 5 rfl | exact rdAt 6 rfl | exact rdOwnAt 6 rfl | exact rdAt 7 rfl | exact rdOwnAt 7 rfl | exact rdAt 8 rfl | exact rdOwnAt 8 rfl | exact rdAt 9 rfl | exact rdOwnAt 9 rfl | exact rdAt 10 rfl | exact rdOwnAt 10 rfl | exact rdAt 11 rfl | exact rdOwnAt 11 rfl | exact rdAt 12 rfl | exact rdOwnAt 12 rfl | exact rdAt 13 rfl | exact rdOwnAt 13 rfl | exact rdAt 14 rfl | exact rdOwnAt 14 rfl | exact rdAt 15 rfl | exact rdOwnAt 15 rfl | exact rdAt 16 rfl | exact rdOwnAt 16 rfl | exact rdAt 17 rfl | exact rdOwnAt 17 rfl | exact rdAt 18 rfl | exact rdOwnAt 18 rfl | exact rdAt 19 rfl | exact rdOwnAt 19 rfl | exact rdAt 20 rfl | exact rdOwnAt 20 rfl | exact rdAt 21 rfl | exact rdOwnAt 21 rfl | exact rdAt 22 rfl | exact rdOwnAt 22 rfl | exact rdAt 23 rfl | exact rdOwnAt 23 rfl) k rfl (by first | omega | (simp; done) | (simp; omega) | (unfold maxLen; omega) | (unfold maxLen; simp; done) | (unfold maxLen; simp; omega)) (fun ad => ?_)
        refine d_idx (ti := tiOf tab) encInt tabOk rfl rfl rfl rfl rfl ⟨rfl, rfl⟩ (by first | exact rdAt 0 rfl | exact rdOwnAt 0 rfl | exact rdAt 1 rfl | exact rdOwnAt 1 rfl | exact rdAt 2 rfl | exact rdOwnAt 2 rfl | exact rdAt 3 rfl | exact rdOwnAt 3 rfl | exact rdAt 4 rfl | exact rdOwnAt 4 rfl | exact rdAt 5 rfl | exact rdOwnAt 5 rfl | exact rdAt 6 rfl | exact rdOwnAt 6 rfl | exact rdAt 7 rfl | exact rdOwnAt 7 rfl | exact rdAt 8 rfl | exact rdOwnAt 8 rfl | exact rdAt 9 rfl | exact rdOwnAt 9 rfl | exact rdAt 10 rfl | exact rdOwnAt 10 rfl | exact rdAt 11 rfl | exact rdOwnAt 11 rfl | exact rdAt 12 rfl | exact rdOwnAt 12 rfl | exact rdAt 13 rfl | exact rdOwnAt 13 rfl | exact rdAt 14 rfl | exact rdOwnAt 14 rfl | exact rdAt 15 rfl | exact rdOwnAt 15 rfl | exact rdAt 16 rfl | exact rdOwnAt 16 rfl | exact rdAt 17 rfl | exact rdOwnAt 17 rfl | exact rdAt 18 rfl | exact rdOwnAt 18 rfl | exact rdAt 19 rfl | exact rdOwnAt 19 rfl | exact rdAt 20 rfl | exact rdOwnAt 20 rfl | exact rdAt 21 rfl | exact rdOwnAt 21 rfl | exact rdAt 22 rfl | exact rdOwnAt 22 rfl | exact rdAt 23 rfl | exact rdOwnAt 23 rfl) k rfl (by first | omega | (simp; done) | (simp; omega) | (unfold maxLen; omega) | (unfold maxLen; simp; done) | (unfold maxLen; simp; omega)) (fun ad2 => ?_)
        refine CaseB.mk (fun h => ?_) (fun h => ?_)
        · have hne := q2 (by simpa using h)
          refine retw [] ⟨?_, rfl⟩ trivial rfl trivial (fun _ => rfl)
          simp [hne]
        · have heq := q1 (by simpa using h)
          have hw := e_succ k _ hlt (by omega)
          refine ⟨⟨k + 1, by omega, heq⟩, ?_, by simp; omega⟩
          refine weak_mk [0, 1] ?_ ?_ ?_ ?_ ?_ rfl rfl
          · repeat (first | exact trivial | refine ⟨⟨_, rfl, (by first | exact .of rfl | exact .lit rfl | exact .of (by first | ((exact congrArg (fun z => SV.v (Value.int .i64 z)) hw))) | exact .lit (by first | ((exact congrArg (fun z => SV.v (Value.int .i64 z)) hw)))), (by first | exact trivial | exact Nat.le_of_ble_eq_true rfl | exact small1 rfl)⟩, ?_⟩)
          · repeat (first | exact trivial | refine ⟨⟨(by first | exact .head _ | exact .tail _ (.head _) | exact .tail _ (.tail _ (.head _)) | exact .tail _ (.tail _ (.tail _ (.head _))) | exact .tail _ (.tail _ (.tail _ (.tail _ (.head _)))) | exact .tail _ (.tail _ (.tail _ (.tail _ (.tail _ (.head _))))) | exact .tail _ (.tail _ (.tail _ (.tail _ (.tail _ (.tail _ (.head _)))))) | exact .tail _ (.tail _ (.tail _ (.tail _ (.tail _ (.tail _ (.tail _ (.head _))))))) | exact .tail _ (.tail _ (.tail _ (.tail _ (.tail _ (.tail _ (.tail _ (.tail _ (.head _)))))))) | exact .tail _ (.tail _ (.tail _ (.tail _ (.tail _ (.tail _ (.tail _ (.tail _ (.tail _ (.head _)))))))))), Nat.le_of_ble_eq_true rfl⟩, ?_⟩)
          · repeat (first | exact trivial | refine ⟨⟨_, rfl, (by first | exact .of rfl | exact .lit rfl | exact .of (by first | ((exact congrArg (fun z => SV.v (Value.int .i64 z)) hw))) | exact .lit (by first | ((exact congrArg (fun z => SV.v (Value.int .i64 z)) hw)))), (by first | exact trivial | exact Nat.le_of_ble_eq_true rfl | exact small1 rfl)⟩, ?_⟩)
          · repeat (first | exact trivial | refine ⟨⟨_, rfl⟩, ?_⟩)
          · repeat (first | exact trivial | refine ⟨.inl ⟨_, rfl, (by first | rfl | ((exact congrArg (fun z => SV.v (Value.int .i64 z)) hw)))⟩, ?_⟩ | refine ⟨.inr ⟨Nat.le_of_ble_eq_true rfl, rfl, rfl, rfl, rfl⟩, ?_⟩)
      · have hge : xs.length ≤ k := by simpa using h
        have heq : xs = ys := by rw [List.take_of_length_le hge, List.take_of_length_le (by omega)] at he; exact he
        refine retw [] ⟨?_, rfl⟩ trivial rfl trivial (fun _ => rfl)
        simp [heq]

/-- What is left behind one count. -/
def szStep (k : Nat) (left : Int) (f : Int → Int) : Int := if szN k left < 0 then -1 else f (szN k left)

end Go.Proofs.YtchkcjeeknfchaaGreatDoor
