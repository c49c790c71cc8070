/- THE FRAMEWORK 'Sx', PART 12: regions that draw their order: what only computes is taken first; over what may come up else all orders are gone through. No project text. -/
import Derived.Test.YtpopeaoklccgcaaSxk
import Derived.OrdersHeld
namespace Go.Sx
open Go Go.RowKit

structure BothW (p q : Prop) : Prop where
  l : p
  r : q

inductive GSt where
  | go
  | no
  | unk (t : Nat) (b : Bool)
  | bad
def guardSt (ops : List Oper) (T : List (Nat × SV)) : Option (Nat × Bool) → GSt
  | none => .go
  | some (j, want) => match gval ops T j with
    | some (_, .lit b) => (match b, want with
      | true, true => .go
      | false, false => .go
      | true, false => .no
      | false, true => .no)
    | some (t, .v (.bool b)) => .unk t b
    | some (_, .v (.tuple _)) => .no
    | _ => .bad
def isIdx : Op → Bool
  | .indexAddr .. => true
  | .binOp .. => true
  | .slice .. => true
  | _ => false
inductive Pick where
  | pure (i : Nat) (d : Option Nat) (s : SV)
  | skip (i : Nat) (d : Option Nat)
  | split (t : Nat) (b : Bool)
  | idx (i : Nat) (o : Oper)
  | none
def pickFrom (ti : Nat → TI) (ops : List Oper) (T : List (Nat × SV)) (c : Nat) (Ms : List ((Nat × Nat) × SV)) : List Nat → Pick
  | [] => .none
  | i :: r => match nth ops i with
    | some o => (match guardSt ops T o.guard with
      | .go => (match pureV ti T c Ms o.op with
        | some s => .pure i o.dst s
        | none => (match isIdx o.op with
          | true => .idx i o
          | false => pickFrom ti ops T c Ms r))
      | .no => .skip i o.dst
      | .unk t b => .split t b
      | .bad => pickFrom ti ops T c Ms r)
    | none => pickFrom ti ops T c Ms r
def allR : List Nat → (Nat → Prop) → Prop
  | [], _ => True
  | [i], p => p i
  | i :: r, p => BothW (p i) (allR r p)
theorem allR_mem : ∀ {l : List Nat} {p : Nat → Prop}, allR l p → ∀ i ∈ l, p i
  | [], _, _, i, hi => by cases hi
  | [x], _, h, i, hi => by simp at hi; subst hi; exact h
  | x :: y :: r, _, h, i, hi => by
    obtain ⟨h1, h2⟩ := h
    rcases List.mem_cons.1 hi with rfl | hi
    · exact h1
    · exact allR_mem h2 i hi
def noKey : List ((Nat × Nat) × SV) → Nat → Nat → Nat → Bool
  | [], _, _, _ => true
  | ((k, o), _) :: r, k', o', l => match Nat.beq k k' with
    | true => (match Nat.blt o o' with
      | true => noKey r k' o' l
      | false => (match Nat.blt o (o' + l) with
        | true => false
        | false => noKey r k' o' l))
    | false => noKey r k' o' l
theorem noKey_ok : ∀ {M : List ((Nat × Nat) × SV)} {k o l : Nat}, noKey M k o l = true → ∀ k' o' v, lookM M k' o' = some v → ¬ (k = k' ∧ o ≤ o' ∧ o' < o + l)
  | [], _, _, _, _, k', o', v, h => by simp [lookM] at h
  | ((a, b), x) :: r, k, o, l, h, k', o', v, hv => by
    rw [lookM_cons] at hv
    simp only [noKey] at h
    by_cases e : a = k' ∧ b = o'
    · obtain ⟨rfl, rfl⟩ := e
      split at h
      · rename_i hk
        have hk := Nat.eq_of_beq_eq_true hk
        split at h
        · rename_i hb
          have : b < o := by simpa using hb
          omega
        · split at h
          · cases h
          · rename_i hb
            have : ¬ b < o + l := fun h => by rw [show Nat.blt b (o + l) = true from by simpa using h] at hb; cases hb
            omega
      · rename_i hk
        have : ¬ a = k := fun e => by subst e; rw [Nat.beq_refl] at hk; cases hk
        omega
    · simp only [e, if_false] at hv
      split at h
      · split at h
        · exact noKey_ok h k' o' v hv
        · split at h
          · cases h
          · exact noKey_ok h k' o' v hv
      · exact noKey_ok h k' o' v hv

def keepF (Fs F : List Fct) : Prop := ∀ f ∈ Fs, f ∈ F

def keepM (Ms M : List ((Nat × Nat) × SV)) : Prop := ∀ k o v, lookM Ms k o = some v → lookM M k o = some v

/-- An operation that asks for a law, in a region that draws. -/
def opD (E : Env) (o : Oper) (Ms : List ((Nat × Nat) × SV)) (Fs : List Fct) (next : St → Prop) (T : List (Nat × SV)) (n c : Nat) (B : List (Nat × TypeId × Nat)) (M : List ((Nat × Nat) × SV)) (F : List Fct) : Prop :=
  keepM Ms M → keepF Fs F → ∀ A a w, WD E A n B M F w → TD E A T n c a w → o.wp E.P a w (fun a' w' => ∃ A' T' n' c' B' M' F', (∀ k, k < n → A' k = A k) ∧ n ≤ n' ∧ (∀ x ∈ B, x ∈ B') ∧ keepM Ms M' ∧ keepF Fs F' ∧ WD E A' n' B' M' F' w' ∧ (∀ w2, TD E A' T' n' c' a' w2) ∧ next (.mk T' n' c' B' M' F')) (fun _ _ _ => False)
/-- The same, where no block is made or written. -/
def opD0 (E : Env) (o : Oper) (Fs : List Fct) (next : St → Prop) (T : List (Nat × SV)) (n c : Nat) (B : List (Nat × TypeId × Nat)) (M : List ((Nat × Nat) × SV)) (F : List Fct) : Prop :=
  keepF Fs F → ∀ A a w, WD E A n B M F w → TD E A T n c a w → o.wp E.P a w (fun a' w' => ∃ T' c' F', WD E A n B M F' w' ∧ (∀ w2, TD E A T' n c' a' w2) ∧ keepF Fs F' ∧ next (.mk T' n c' B M F')) (fun _ _ _ => False)
theorem opD0.up {E : Env} {o : Oper} {Ms : List ((Nat × Nat) × SV)} {Fs : List Fct} {next : St → Prop} {T : List (Nat × SV)} {n c : Nat} {B : List (Nat × TypeId × Nat)} {M : List ((Nat × Nat) × SV)} {F : List Fct} (h : opD0 E o Fs next T n c B M F) : opD E o Ms Fs next T n c B M F := by
  intro hm hf A a w hW hT
  have := h hf A a w hW hT
  refine Oper.wp_mono (Q := fun _ _ _ => False) ?_ this
  rintro a' w' ⟨T', c', F', h1, h2, h3, h4⟩
  exact ⟨A, T', n, c', B, M, F', fun _ _ => rfl, Nat.le_refl _, fun _ h => h, hm, h3, h1, h2, h4⟩

def effD (E : Env) (ti : Nat → TI) (o : Oper) (Ms : List ((Nat × Nat) × SV)) (Fs : List Fct) (next : St → Prop) (T : List (Nat × SV)) (n c : Nat) (B : List (Nat × TypeId × Nat)) (M : List ((Nat × Nat) × SV)) (F : List Fct) : Op → Prop
  | .alloc t => (match ti t with
    | .mk _ sz zero _ _ _ _ _ => (match o.dst with
      | some d => (match Nat.blt d E.N with
        | true => (match Nat.beq (listLen zero) sz with
          | true => storeK n 0 (zero.map .v) M fun M' => next (.mk ((d, .p n 0) :: T) (n + 1) (c + 1) ((n, t, sz) :: B) M' F)
          | false => False)
        | false => False)
      | none => False)
    | .none => False)
  | .load t x => (match pLoad (ti t) T c M x with
    | some s => (match o.dst with
      | some d => (match Nat.blt d E.N with
        | true => (match s with
          | .e .. => False
          | s => next (.mk ((d, s) :: T) n (c + 1) B M F))
        | false => False)
      | none => False)
    | none => OpW (opD E o Ms Fs next T n c B M F))
  | .store t x y => (match o.dst with
    | some _ => False
    | none => (match evalO T x with
      | some (.p k off) => (match ti t with
        | .mk _ sz _ _ _ _ _ _ => (match evalO T y with
          | some s => (match cellsSV s with
            | some l => (match Nat.beq (listLen l) sz with
              | true => (match lookB B k with
                | some bsz => (match Nat.ble (off + sz) bsz with
                  | true => (match noKey Ms k off sz with
                    | true => storeK k off l M fun M' => next (.mk T n (c + 1) B M' F)
                    | false => False)
                  | false => False)
                | none => False)
              | false => False)
            | none => False)
          | none => False)
        | .none => False)
      | _ => OpW (opD E o Ms Fs next T n c B M F)))
  | .buildSlice t len ps => (match ti t with
    | .mk _ _ _ _ (some e) _ _ _ => (match ti e with
      | .mk _ esz _ _ _ _ _ _ => (match o.dst with
        | some d => (match Nat.blt d E.N with
          | true => (match Nat.beq (listLen ps.toList) len with
            | true => (match Nat.ble (len * esz + len) 16777216 with
              | true => (match bParts T esz 0 ps.toList with
                | some cs => AllSl fun y => next (.mk ((d, .v (y.val len)) :: T) n (c + 1) B M (fOwn false y e esz cs len :: F))
                | none => False)
              | false => False)
            | false => False)
          | false => False)
        | none => False)
      | .none => False)
    | _ => False)
  | _ => OpW (opD E o Ms Fs next T n c B M F)

/-- What has come up: structural twins of the model's questions. -/
def nthB : List Bool → Nat → Bool
  | [], _ => false
  | b :: _, 0 => b
  | _ :: r, n + 1 => nthB r n
def setB : List Bool → Nat → List Bool
  | [], _ => []
  | _ :: r, 0 => true :: r
  | b :: r, n + 1 => b :: setB r n
def falses : List Oper → List Bool
  | [] => []
  | _ :: r => false :: falses r
def rdyE (L : List Bool) : List Edge → Bool
  | [] => true
  | e :: r => match e.ground with
    | .textOnly _ => rdyE L r
    | .gcOnly _ => rdyE L r
    | _ => (match nthB L e.on with
      | true => rdyE L r
      | false => false)
def readyB (L : List Bool) : Nat → List Oper → List Bool → List Nat
  | k, o :: r, b :: l => (match b with
    | true => readyB L (k + 1) r l
    | false => (match rdyE L o.after.toList with
      | true => k :: readyB L (k + 1) r l
      | false => readyB L (k + 1) r l))
  | _, _, _ => []
def hasEdge (o : Oper) (i : Nat) : Bool := o.after.any fun e => Region.binds .any e && e.on == i
def apartAll (ops : Array Oper) : Bool := (List.range ops.size).all fun i => (List.range ops.size).all fun j => match ops[i]?, ops[j]? with
  | some x, some y => i == j || hasEdge x j || hasEdge y i || x.apart ops y
  | _, _ => true
theorem nthB_eq : ∀ (L : List Bool) (i : Nat), nthB L i = L.toArray.getD i false
  | [], i => by simp [nthB]
  | b :: r, 0 => by simp [nthB]
  | b :: r, i + 1 => by rw [nthB, nthB_eq r i]; simp [Array.getD_eq_getD_getElem?]
theorem setB_eq : ∀ (L : List Bool) (i : Nat), setB L i = L.set i true
  | [], i => by simp [setB]
  | b :: r, 0 => by simp [setB]
  | b :: r, i + 1 => by rw [setB, setB_eq r i]; simp
theorem falses_eq : ∀ (l : List Oper), falses l = List.replicate l.length false
  | [] => rfl
  | _ :: r => by rw [falses, falses_eq r, List.length_cons, List.replicate_succ]
theorem rdyE_eq (L : List Bool) : ∀ (es : List Edge), rdyE L es = true ↔ ∀ e ∈ es, Region.binds .any e = true → L.toArray.getD e.on false = true
  | [] => by simp [rdyE]
  | e :: r => by
    rw [List.forall_mem_cons, ← rdyE_eq L r, ← nthB_eq]
    have e1 : (Region.Mode.any == Region.Mode.text) = false := rfl
    have e2 : (Region.Mode.any == Region.Mode.gc) = false := rfl
    cases hg : e.ground <;> cases hn : nthB L e.on <;> simp [rdyE, Region.binds, hg, hn, e1, e2]
theorem mem_readyB' (L : List Bool) : ∀ (ops : List Oper) (l : List Bool) (k i : Nat), i ∈ readyB L k ops l ↔ ∃ j, i = k + j ∧ l[j]? = some false ∧ ∃ o, ops[j]? = some o ∧ rdyE L o.after.toList = true
  | [], l, k, i => by cases l <;> simp [readyB]
  | o :: r, [], k, i => by simp [readyB]
  | o :: r, b :: l, k, i => by
    have ih := mem_readyB' L r l (k + 1) i
    have e : (∃ j, i = k + j ∧ (b :: l)[j]? = some false ∧ ∃ x, (o :: r)[j]? = some x ∧ rdyE L x.after.toList = true) ↔ (i = k ∧ b = false ∧ rdyE L o.after.toList = true) ∨ (∃ j, i = k + 1 + j ∧ l[j]? = some false ∧ ∃ x, r[j]? = some x ∧ rdyE L x.after.toList = true) := by
      constructor
      · rintro ⟨j, h1, h2, x, h3, h4⟩
        cases j with
        | zero =>
          simp only [List.getElem?_cons_zero, Option.some.injEq] at h2 h3
          subst h3
          exact .inl ⟨h1, h2, h4⟩
        | succ j => exact .inr ⟨j, by omega, by simpa using h2, x, by simpa using h3, h4⟩
      · rintro (⟨h1, h2, h3⟩ | ⟨j, h1, h2, x, h3, h4⟩)
        · exact ⟨0, h1, by simp [h2], o, by simp, h3⟩
        · exact ⟨j + 1, by omega, by simpa using h2, x, by simpa using h3, h4⟩
    rw [e, ← ih]
    cases b with
    | true => simp [readyB]
    | false => cases hr : rdyE L o.after.toList <;> simp [readyB, hr]
theorem mem_readyB {L : List Bool} {ops : List Oper} {i : Nat} : i ∈ readyB L 0 ops L ↔ i ∈ Region.ready .any ops.toArray L.toArray := by
  rw [mem_readyB', mem_ready]
  constructor
  · rintro ⟨j, h1, h2, o, h3, h4⟩
    obtain rfl : i = j := by omega
    exact ⟨by simp [Array.getD_eq_getD_getElem?, h2], o, by simpa using h3, fun e he => (rdyE_eq L _).1 h4 e (by simpa using he)⟩
  · rintro ⟨h2, o, h3, h4⟩
    refine ⟨i, by omega, ?_, o, by simpa using h3, (rdyE_eq L _).2 fun e he => h4 e (by simpa using he)⟩
    rw [Array.getD_eq_getD_getElem?] at h2
    simp only [List.getElem?_toArray] at h2
    cases hx : L[i]? with
    | none => rw [hx] at h2; simp at h2
    | some b => rw [hx] at h2; simp at h2; rw [h2]
theorem free_of_apart {ops : List Oper} (h : apartAll ops.toArray = true) {L : List Bool} {i : Nat} (hi : i ∈ Region.ready .any ops.toArray L.toArray) : Region.free .any ops.toArray L.toArray i = true := by
  obtain ⟨h1, o, h2, h3⟩ := mem_ready.1 hi
  unfold Region.free
  rw [h2]
  simp only [List.all_eq_true]
  intro j hj
  have hil : i < ops.toArray.size := (Array.getElem?_eq_some_iff.1 h2).1
  simp only [apartAll, List.all_eq_true] at h
  have hij := h i (by simpa using hil) j hj
  rw [h2] at hij
  cases hjo : ops.toArray[j]? with
  | none => simp
  | some oj =>
    rw [hjo] at hij
    simp only [Bool.or_eq_true] at hij ⊢
    rcases hij with ((hij | hij) | hij) | hij
    · exact .inl (.inl (by simp only [beq_iff_eq] at hij ⊢; exact hij.symm))
    · left; right
      simp only [hasEdge, Array.any_eq_true', Bool.and_eq_true, beq_iff_eq] at hij
      obtain ⟨e, he, hb, rfl⟩ := hij
      have := h3 e he hb
      rw [Array.getD_eq_getD_getElem?] at this ⊢
      cases hx : L.toArray[e.on]? with
      | none => rw [hx] at this; simp at this
      | some b => rw [hx] at this; simp at this; simp [this]
    · right; left; exact hij
    · right; right; exact hij

/-- The region: fuel, what has come up, the state. -/
def vcD (E : Env) (ti : Nat → TI) (ops : List Oper) (n0 : Nat) (B0 : List (Nat × TypeId × Nat)) (Ms : List ((Nat × Nat) × SV)) (Fs : List Fct) (K : St → Prop) : Nat → List Bool → St → Prop
  | 0, _, _ => False
  | f + 1, L, .mk T n c B M F => match pickFrom ti ops T c Ms (readyB L 0 ops L) with
    | .pure i d s => (match d with
        | some d => (match Nat.blt d E.N with
          | true => vcD E ti ops n0 B0 Ms Fs K f (setB L i) (.mk ((d, s) :: T) n c B M F)
          | false => False)
        | none => vcD E ti ops n0 B0 Ms Fs K f (setB L i) (.mk T n c B M F))
    | .skip i d => (match d with
        | some d => (match Nat.blt d E.N with
          | true => vcD E ti ops n0 B0 Ms Fs K f (setB L i) (.mk ((d, .v undef) :: T) n c B M F)
          | false => False)
        | none => vcD E ti ops n0 B0 Ms Fs K f (setB L i) (.mk T n c B M F))
    | .split t b => CaseB b (vcD E ti ops n0 B0 Ms Fs K f L (.mk ((t, .lit true) :: T) n c B M F)) (vcD E ti ops n0 B0 Ms Fs K f L (.mk ((t, .lit false) :: T) n c B M F))
    | .idx i o => OpW (∀ A, ∃ s : SV, (∀ a w, WD E A n0 B0 Ms Fs w → TD E A T n c a w → (execOp a.eval o).run E.P w = .ok (.value (s.den A)) w ∧ s.okT n c w) ∧ (∃ d, Dst E o d ∧ vcD E ti ops n0 B0 Ms Fs K f (setB L i) (.mk ((d, s) :: T) n c B M F)))
    | .none => (match readyB L 0 ops L with
      | [] => K (.mk T n c B M F)
      | i :: r => allR (i :: r) fun i => match nth ops i with
        | some o => (match guardSt ops T o.guard with
          | .go => effD E ti o Ms Fs (fun s' => vcD E ti ops n0 B0 Ms Fs K f (setB L i) s') T n c B M F o.op
          | _ => False)
        | none => False)

section
variable {E : Env} {ti : Nat → TI}

theorem den_agree {A A' : Nat → Nat} {n : Nat} (h : ∀ k, k < n → A k = A' k) {v : SV} (hv : v.small n) : v.den A = v.den A' := by
  cases v with
  | p k o => simp [SV.den, ptr, h k hv]
  | f g cap =>
    simp only [SV.den]
    congr 2
    apply List.map_congr_left
    intro x hx
    simp [ptr, h x.1 (hv x hx)]
  | _ => rfl
theorem WD.agree {A A' : Nat → Nat} {n : Nat} {B : List (Nat × TypeId × Nat)} {M : List ((Nat × Nat) × SV)} {F : List Fct} {w : World} (h : WD E A n B M F w) (ha : ∀ k, k < n → A k = A' k) : WD E A' n B M F w := by
  refine ⟨?_, ?_, ?_, ?_, h.n0, h.ext, ?_, h.dj⟩
  · intro k ty sz hk
    have := h.key k ty sz hk
    rw [ha k this.1] at this
    exact this
  · intro k ty sz k' ty' sz' hk hk' e
    rw [← ha k (h.key _ _ _ hk).1, ← ha k' (h.key _ _ _ hk').1] at e
    exact h.inj _ _ _ _ _ _ hk hk' e
  · intro k o v hv
    obtain ⟨⟨ty, sz, hk⟩, h2, h3⟩ := h.mem k o v hv
    refine ⟨⟨ty, sz, hk⟩, ?_, h3⟩
    rw [← ha k (h.key _ _ _ hk).1, ← den_agree ha h3]
    exact h2
  · intro k hk
    rw [← ha k (Nat.lt_of_lt_of_le hk h.n0)]
    exact h.a0 k hk
  · intro f hf
    obtain ⟨h1, h2, h3⟩ := h.fct f hf
    exact ⟨h1, fun b hb => ⟨(h2 b hb).1, fun k ty sz hk => by rw [← ha k (h.key _ _ _ hk).1]; exact (h2 b hb).2 k ty sz hk⟩, h3⟩

/-- How the state at hand stands to the one at the region's beginning. -/
structure InvD (E : Env) (A0 : Nat → Nat) (n0 : Nat) (B0 : List (Nat × TypeId × Nat)) (Ms : List ((Nat × Nat) × SV)) (Fs : List Fct) (A : Nat → Nat) (n : Nat) (B : List (Nat × TypeId × Nat)) (M : List ((Nat × Nat) × SV)) (F : List Fct) (w : World) : Prop where
  ag : ∀ k, k < n0 → A k = A0 k
  hn : n0 ≤ n
  hb : ∀ x ∈ B0, x ∈ B
  hm : ∀ k o v, lookM Ms k o = some v → lookM M k o = some v
  hf : keepF Fs F
  hw : WD E A n B M F w

theorem InvD.start {A0 A : Nat → Nat} {n0 n : Nat} {B0 B : List (Nat × TypeId × Nat)} {Ms M : List ((Nat × Nat) × SV)} {Fs F : List Fct} {w ws : World} (h : InvD E A0 n0 B0 Ms Fs A n B M F w) (hs : WD E A0 n0 B0 Ms Fs ws) : WD E A0 n0 B0 Ms Fs w := by
  refine ⟨?_, ?_, ?_, hs.a0, hs.n0, h.hw.ext, ?_, hs.dj⟩
  · intro k ty sz hk
    obtain ⟨h1, _⟩ := hs.key k ty sz hk
    obtain ⟨_, h2⟩ := h.hw.key k ty sz (h.hb _ hk)
    rw [h.ag k h1] at h2
    exact ⟨h1, h2⟩
  · exact hs.inj
  · intro k o v hv
    obtain ⟨⟨ty, sz, hk⟩, _, h3⟩ := hs.mem k o v hv
    refine ⟨⟨ty, sz, hk⟩, ?_, h3⟩
    have := (h.hw.mem k o v (h.hm k o v hv)).2.1
    rw [h.ag k (hs.key _ _ _ hk).1, den_agree h.ag h3] at this
    exact this
  · intro f hf
    obtain ⟨h1, h2, h3⟩ := h.hw.fct f (h.hf f hf)
    exact ⟨h1, fun b hb => ⟨(h2 b hb).1, fun k ty sz hk => by rw [← h.ag k (hs.key _ _ _ hk).1]; exact (h2 b hb).2 k ty sz (h.hb _ hk)⟩, h3⟩

/-- A slice is built: the run. -/
theorem buildSlice_run {A : Nat → Nat} {T : List (Nat × SV)} {n c : Nat} {a : Act} {w : World} (hti : ∀ t, TIok E.P t (ti t)) (hT : TD E A T n c a w) {o : Oper} {t e len : Nat} {ps : Array (Nat × Operand)} {agg : Bool} {size : Nat} {zero : List Value} {fs : List (Nat × Nat × Bool)} {ik : Option IntKind} {kd bytes : Nat} {agg2 : Bool} {esz : Nat} {zero2 : List Value} {fs2 : List (Nat × Nat × Bool)} {el2 : Option TypeId} {ik2 : Option IntKind} {kd2 bytes2 : Nat} {cs : List Value}
    (hop : o.op = .buildSlice t len ps) (hte : ti t = .mk agg size zero fs (some e) ik kd bytes) (hte2 : ti e = .mk agg2 esz zero2 fs2 el2 ik2 kd2 bytes2) (hplen : Nat.beq (listLen ps.toList) len = true) (h24 : Nat.ble (len * esz + len) 16777216 = true) (hcs : bParts T esz 0 ps.toList = some cs) :
    (execOp a.eval o).run E.P w = .ok (.value (.slice (some ⟨w.heap.size, 0, none⟩) len len)) (w.alloc (.cells cs.toArray e)) ∧ Ext w (w.alloc (.cells cs.toArray e)) ∧ New w (w.alloc (.cells cs.toArray e)) [fOwn false ⟨some ⟨w.heap.size, 0, none⟩, len⟩ e esz cs len] := by
  have htt := hti t
  rw [hte] at htt
  obtain ⟨ii, dd, z, e1, e2, e3, e4, e5, e6, e7, e8, e9, e10, e11⟩ := tiSum_parts htt
  have htt2 := hti e
  rw [hte2] at htt2
  obtain ⟨ii2, dd2, z2, k1, k2, k3, k4, k5, k6, k7, k8, k9, k10, k11⟩ := tiSum_parts htt2
  have hdd := el_slice e8
  have hlen := Nat.eq_of_beq_eq_true hplen
  rw [listLen_eq] at hlen
  have h24' := Nat.le_of_ble_eq_true h24
  obtain ⟨r, g1, g2, g3⟩ : ∃ r, cs.length = len * esz ∧ Instr.fill (fun i => some (i * esz, esz)) ((Array.range (len * esz)).map (((if len * esz = 0 then #[] else z2.cells) : Array Value)[· % ((if len * esz = 0 then #[] else z2.cells) : Array Value).size]!)) (ps.toList.map fun x => (x.1, a.eval x.2)) = some r ∧ r.toList = cs := by
    obtain ⟨q1, r, q2, q3⟩ := fill_parts hT (acc := (Array.range (len * esz)).map (((if len * esz = 0 then #[] else z2.cells) : Array Value)[· % ((if len * esz = 0 then #[] else z2.cells) : Array Value).size]!)) hcs (by simp [hlen])
    exact ⟨r, by rw [q1, hlen], q2, by simpa using q3⟩
  have hrcs : r = cs.toArray := by apply Array.ext'; simpa using g3
  have hr : (execOp a.eval o).run E.P w = .ok (.value (.slice (some ⟨w.heap.size, 0, none⟩) len len)) (w.alloc (.cells cs.toArray e)) := by
    have hps : (ps.map fun (x : Nat × Operand) => (x.1, a.eval x.2)).toList = ps.toList.map fun x => (x.1, a.eval x.2) := by simp
    have hdd2 : E.P.underlying t = some (.slice e) := by rw [e2, hdd]
    simp only [execOp, hop, Instr.buildSlice, Sem.run_bind, underlying, run_program, Result.andThen_ok, hdd2, Sem.run_pure, run_sizeOf k1, k4, hps]
    rw [if_neg (show ¬ (len * esz > 2 ^ 24) by omega)]
    by_cases h0 : len * esz = 0
    · simp only [h0, if_true] at g2 ⊢
      simp only [Sem.run_bind, Sem.run_pure, Result.andThen_ok]
      rw [g2]
      simp [newRow, hrcs]
    · simp only [h0, if_false] at g2 ⊢
      simp only [Sem.run_bind, Sem.run_pure, Result.andThen_ok, zeroValue, typeInfo, run_program, k1, k5]
      rw [g2]
      simp [newRow, hrcs]
  have hex := Ext.alloc w (.cells cs.toArray e)
  have hown : (w.alloc (.cells cs.toArray e)).ownsRow 0 e esz (Sl.val ⟨some ⟨w.heap.size, 0, none⟩, len⟩ len) len cs := by
    refine ⟨g1, .inr ⟨w.heap.size, len, cs.toArray, rfl, Nat.zero_le _, heap_alloc_new w _, Nat.le_refl _, ?_, by simp [g1], ?_⟩⟩
    · simp only [maxLen]; omega
    · simp [← g1]
  have hnew : New w (w.alloc (.cells cs.toArray e)) [fOwn false ⟨some ⟨w.heap.size, 0, none⟩, len⟩ e esz cs len] := by
    refine ⟨fun f hf => ?_, List.pairwise_singleton _ _⟩
    simp only [List.mem_singleton] at hf
    subst hf
    refine ⟨hown, rfl, fun b hb => ?_⟩
    obtain ⟨ad, h1, h2⟩ := hb
    simp only [Option.some.injEq] at h1
    subst h1
    simp at h2
    subst h2
    simp
  exact ⟨hr, hex, hnew⟩
theorem effD_sound (hti : ∀ t, TIok E.P t (ti t)) {o : Oper} {next : St → Prop} {A0 A : Nat → Nat} {n0 n c : Nat} {B0 B : List (Nat × TypeId × Nat)} {Ms M : List ((Nat × Nat) × SV)} {Fs F : List Fct} {T : List (Nat × SV)} {a : Act} {w ws : World}
    (hv : effD E ti o Ms Fs next T n c B M F o.op) (hI : InvD E A0 n0 B0 Ms Fs A n B M F w) (hs : WD E A0 n0 B0 Ms Fs ws) (hT : TD E A T n c a w) {K : Act → World → Prop} {Q : Exit → Act → World → Prop}
    (hK : ∀ A' T' n' c' B' M' F' a' w', InvD E A0 n0 B0 Ms Fs A' n' B' M' F' w' → (∀ w2, TD E A' T' n' c' a' w2) → next (.mk T' n' c' B' M' F') → K a' w') :
    o.wp E.P a w K Q := by
  have hMlt : ∀ k o v, lookM Ms k o = some v → k < n0 := fun k o v hv => by
    obtain ⟨⟨ty, sz, hk⟩, _⟩ := hs.mem k o v hv
    exact (hs.key _ _ _ hk).1
  cases hop : o.op <;> rw [hop] at hv <;> simp only [effD] at hv
  case alloc t =>
    split at hv
    · rename_i agg sz zero fs el ik kd bytes hte
      split at hv
      · rename_i d hd
        split at hv
        · rename_i hdn
          split at hv
          · rename_i hlen
            have htt := hti t
            rw [hte] at htt
            obtain ⟨ii, dd, z, e1, e2, e3, e4, e5, e6, e7, e8, e9, e10, e11⟩ := tiSum_parts htt
            rw [storeK_eq] at hv
            have hsz := Nat.eq_of_beq_eq_true hlen
            rw [listLen_eq] at hsz
            have hal := hI.hw.alloc (l := zero.map .v) (fun x hx => by obtain ⟨y, _, rfl⟩ := List.mem_map.1 hx; trivial) t
            have hcells : ((zero.map SV.v).map (SV.den A)).toArray = z.cells := by
              rw [List.map_map, show (SV.den A ∘ SV.v) = id from rfl, List.map_id, ← e6]
            rw [hcells, List.length_map, hsz] at hal
            have hr : (execOp a.eval o).run E.P w = .ok (.value (.pointer (some ⟨w.heap.size, 0, none⟩))) (w.alloc (.cells z.cells t)) := by
              simp [execOp, hop, run_alloc e1 e5]
            refine upon_of_value hr ?_
            rw [hd]
            refine hK (fun k => if k = n then w.heap.size else A k) _ _ _ _ _ _ _ _ ⟨fun k hk => ?_, Nat.le_succ_of_le hI.hn, fun x hx => by simp [hI.hb x hx], fun k o v hv => ?_, hI.hf, hal⟩ (fun w2 => ?_) hv
            · have := hI.hn
              simp only [if_neg (show k ≠ n by omega)]
              exact hI.ag k hk
            · have := hI.hn
              have hk := hMlt k o v hv
              rw [lookM_storeL, if_neg (by omega)]
              exact hI.hm k o v hv
            · have := (hT.alloc w.heap.size w2).put (d := d) (v := .p n 0) (by simpa using hdn) (Nat.lt_succ_self n)
              simpa [SV.den, ptr] using this
          · exact hv.elim
        · exact hv.elim
      · exact hv.elim
    · exact hv.elim
  case load t x =>
    split at hv
    · rename_i s hsl
      split at hv
      · rename_i d hd
        split at hv
        · rename_i hdn
          obtain ⟨h1, h2⟩ := pLoad_sound hti (fun k o v hv => (hI.hw.mem k o v hv).2) hT hsl o hop
          refine upon_of_value h1 ?_
          rw [hd]
          split at hv
          · exact hv.elim
          · rename_i hne
            refine hK A _ _ _ _ _ _ _ _ ⟨hI.ag, hI.hn, hI.hb, hI.hm, hI.hf, hI.hw⟩ (fun w2 => (hT.step w2).put (by simpa using hdn) ?_) hv
            cases s with
            | e s ad cs off => exact (hne s ad cs off rfl).elim
            | p k o => exact h2
            | f g cap => exact h2
            | _ => trivial
        · exact hv.elim
      · exact hv.elim
    · obtain ⟨hv⟩ := hv
      exact Oper.wp_weak (fun a w ⟨A', T', n', c', B', M', F', g1, g2, g3, g4, g5, h1, h2, h4⟩ => hK A' _ _ _ _ _ _ _ _ ⟨fun k hk => (g1 k (Nat.lt_of_lt_of_le hk hI.hn)).trans (hI.ag k hk), Nat.le_trans hI.hn g2, fun x hx => g3 x (hI.hb x hx), g4, g5, h1⟩ h2 h4) (hv hI.hm hI.hf A a w hI.hw hT)
  case store t x y =>
    split at hv
    · exact hv.elim
    · rename_i hd
      split at hv
      · rename_i k off hx
        split at hv
        · rename_i agg sz zero fs el ik kd bytes hte
          split at hv
          · rename_i s hs'
            split at hv
            · rename_i l hl
              split at hv
              · rename_i hlen
                split at hv
                · rename_i bsz hb
                  split at hv
                  · rename_i hle
                    split at hv
                    · rename_i hnk
                      rw [storeK_eq] at hv
                      have htt := hti t
                      rw [hte] at htt
                      obtain ⟨ii, dd, z, e1, e2, e3, e4, e5, e6, e7, e8, e9, e10, e11⟩ := tiSum_parts htt
                      obtain ⟨h1, h2⟩ := evalO_sound hT hs'
                      obtain ⟨h3, h4⟩ := evalO_sound hT hx
                      obtain ⟨c1, c2, c3⟩ := cellsSV_spec (A := A) hl h2
                      obtain ⟨ty, hmem⟩ := lookB_mem hb
                      have hsz := Nat.eq_of_beq_eq_true hlen
                      rw [listLen_eq] at hsz
                      obtain ⟨w', hrun, hW'⟩ := hI.hw.store hmem c2 c3 (by rw [hsz]; exact Nat.le_of_ble_eq_true hle) E.P
                      have hcs : (s.den A).cells.size = ii.size := by
                        have : (s.den A).cells.toList.length = l.length := by rw [c1]; simp
                        simp at this
                        rw [this, hsz, e4]
                      have hr : (execOp a.eval o).run E.P w = .ok .skip w' := by
                        have h3' : a.eval x = .pointer (some ⟨A k, off, none⟩) := h3
                        simp only [execOp, hop, Instr.storeAt, h1, h3', Instr.sureAddr, Sem.run_bind, Sem.run_pure, Result.andThen_ok, storeVar, run_sizeOf e1]
                        rw [if_neg (by simp [hcs]), c1]
                        simp only [Result.andThen_ok, hrun]
                      refine upon_of_skip hr ?_
                      rw [hd]
                      refine hK A _ _ _ _ _ _ _ _ ⟨hI.ag, hI.hn, hI.hb, fun k' o' v hv => ?_, hI.hf, hW'⟩ (fun w2 => hT.step w2) hv
                      rw [lookM_storeL, if_neg (by rw [hsz]; exact noKey_ok hnk k' o' v hv)]
                      exact hI.hm k' o' v hv
                    · exact hv.elim
                  · exact hv.elim
                · exact hv.elim
              · exact hv.elim
            · exact hv.elim
          · exact hv.elim
        · exact hv.elim
      · obtain ⟨hv⟩ := hv
        exact Oper.wp_weak (fun a w ⟨A', T', n', c', B', M', F', g1, g2, g3, g4, g5, h1, h2, h4⟩ => hK A' _ _ _ _ _ _ _ _ ⟨fun k hk => (g1 k (Nat.lt_of_lt_of_le hk hI.hn)).trans (hI.ag k hk), Nat.le_trans hI.hn g2, fun x hx => g3 x (hI.hb x hx), g4, g5, h1⟩ h2 h4) (hv hI.hm hI.hf A a w hI.hw hT)
  case buildSlice t len ps =>
    split at hv
    · rename_i e ik kd bytes hte
      split at hv
      · rename_i agg2 esz zero2 fs2 el2 ik2 kd2 bytes2 hte2
        split at hv
        · rename_i d hd
          split at hv
          · rename_i hdn
            split at hv
            · rename_i hplen
              split at hv
              · rename_i h24
                split at hv
                · rename_i cs hcs
                  obtain ⟨hv⟩ := hv
                  obtain ⟨hr, hex, hnew⟩ := buildSlice_run hti hT hop hte hte2 hplen h24 hcs
                  refine upon_of_value hr ?_
                  rw [hd]
                  exact hK A _ _ _ _ _ _ _ _ ⟨hI.ag, hI.hn, hI.hb, hI.hm, fun f hf => List.mem_cons_of_mem _ (hI.hf f hf), hI.hw.learn hex hnew⟩ (fun w2 => (hT.step w2).put (d := d) (v := .v (Sl.val ⟨some ⟨w.heap.size, 0, none⟩, len⟩ len)) (by simpa using hdn) trivial) (hv ⟨some ⟨w.heap.size, 0, none⟩, len⟩)
                · exact hv.elim
              · exact hv.elim
            · exact hv.elim
          · exact hv.elim
        · exact hv.elim
      · exact hv.elim
    · exact hv.elim
  all_goals
    obtain ⟨hv⟩ := hv
    exact Oper.wp_weak (fun a w ⟨A', T', n', c', B', M', F', g1, g2, g3, g4, g5, h1, h2, h4⟩ => hK A' _ _ _ _ _ _ _ _ ⟨fun k hk => (g1 k (Nat.lt_of_lt_of_le hk hI.hn)).trans (hI.ag k hk), Nat.le_trans hI.hn g2, fun x hx => g3 x (hI.hb x hx), g4, g5, h1⟩ h2 h4) (hv hI.hm hI.hf A a w hI.hw hT)

def unl : List Bool → Nat
  | [] => 0
  | true :: r => unl r
  | false :: r => unl r + 1
theorem unl_set : ∀ {l : List Bool} {i : Nat}, l[i]? = some false → unl (l.set i true) + 1 = unl l
  | [], i, h => by simp at h
  | b :: r, 0, h => by simp at h; subst h; simp [unl]
  | b :: r, i + 1, h => by
    simp at h
    have := unl_set h
    cases b <;> simp [unl] <;> omega
theorem unl_ready {md : Region.Mode} {ops : Array Oper} {L : Array Bool} {i : Nat} (h : i ∈ Region.ready md ops L) : unl (L.setIfInBounds i true).toList + 1 = unl L.toList := by
  have h0 := (mem_ready.1 h).1
  have h1 : L.toList[i]? = some false := by
    rw [Array.getD_eq_getD_getElem?] at h0
    rw [Array.getElem?_toList]
    cases hx : L[i]? with
    | none => rw [hx] at h0; simp at h0
    | some b => rw [hx] at h0; simp at h0; rw [h0]
  rw [Array.toList_setIfInBounds]
  exact unl_set h1

theorem guardSt_go {A : Nat → Nat} {T : List (Nat × SV)} {n c : Nat} {a : Act} {w : World} (h : TD E A T n c a w) {ops : List Oper} {g : Option (Nat × Bool)} (hg : guardSt ops T g = .go) (o : Oper) (ho : o.guard = g) : Region.wanted o (yielded ops.toArray a.tmps) = true := by
  unfold guardSt at hg
  split at hg
  · simp [Region.wanted, ho]
  · rename_i j want
    split at hg
    · rename_i t b hgv
      have hy := (gval_yield h hgv (b := b) rfl).1
      split at hg <;> first | (cases hg; done) | simp [Region.wanted, ho, hy]
    · cases hg
    · cases hg
    · cases hg
theorem guardSt_no {A : Nat → Nat} {T : List (Nat × SV)} {n c : Nat} {a : Act} {w : World} (h : TD E A T n c a w) {ops : List Oper} {g : Option (Nat × Bool)} (hg : guardSt ops T g = .no) (o : Oper) (ho : o.guard = g) : Region.wanted o (yielded ops.toArray a.tmps) = false := by
  unfold guardSt at hg
  split at hg
  · cases hg
  · rename_i j want
    split at hg
    · rename_i t b hgv
      have hy := (gval_yield h hgv (b := b) rfl).1
      split at hg <;> first | (cases hg; done) | simp [Region.wanted, ho, hy]
    · cases hg
    · rename_i t xs hgv
      have hy := gval_none h hgv (xs := xs) rfl
      simp [Region.wanted, ho, hy]
    · cases hg
theorem guardSt_unk {A : Nat → Nat} {T : List (Nat × SV)} {n c : Nat} {a : Act} {w : World} (h : TD E A T n c a w) {ops : List Oper} {g : Option (Nat × Bool)} {t : Nat} {b : Bool} (hg : guardSt ops T g = .unk t b) : look T t = some (.v (.bool b)) := by
  unfold guardSt at hg
  split at hg
  · cases hg
  · rename_i j want
    split at hg
    · split at hg <;> cases hg
    · rename_i hgv
      have := (gval_yield h hgv (b := _) rfl).2
      cases hg
      exact this
    · cases hg
    · cases hg

/-- What a pick says. -/
theorem pick_spec {ti : Nat → TI} {ops : List Oper} {T : List (Nat × SV)} {c : Nat} {Ms : List ((Nat × Nat) × SV)} : ∀ (rs : List Nat),
    (∀ i d s, pickFrom ti ops T c Ms rs = .pure i d s → i ∈ rs ∧ ∃ o, ops[i]? = some o ∧ guardSt ops T o.guard = .go ∧ pureV ti T c Ms o.op = some s ∧ o.dst = d) ∧
    (∀ i d, pickFrom ti ops T c Ms rs = .skip i d → i ∈ rs ∧ ∃ o, ops[i]? = some o ∧ guardSt ops T o.guard = .no ∧ o.dst = d) ∧
    (∀ t b, pickFrom ti ops T c Ms rs = .split t b → ∃ o : Oper, guardSt ops T o.guard = .unk t b) ∧
    (∀ i o, pickFrom ti ops T c Ms rs = .idx i o → i ∈ rs ∧ ops[i]? = some o ∧ guardSt ops T o.guard = .go)
  | [] => ⟨fun _ _ _ h => (by cases h), fun _ _ h => (by cases h), fun _ _ h => (by cases h), fun _ _ h => (by cases h)⟩
  | i :: r => by
    have ih := pick_spec (ti := ti) (ops := ops) (T := T) (c := c) (Ms := Ms) r
    have up : (∀ j d s, pickFrom ti ops T c Ms r = .pure j d s → j ∈ i :: r ∧ ∃ o, ops[j]? = some o ∧ guardSt ops T o.guard = .go ∧ pureV ti T c Ms o.op = some s ∧ o.dst = d) ∧
        (∀ j d, pickFrom ti ops T c Ms r = .skip j d → j ∈ i :: r ∧ ∃ o, ops[j]? = some o ∧ guardSt ops T o.guard = .no ∧ o.dst = d) ∧
        (∀ t b, pickFrom ti ops T c Ms r = .split t b → ∃ o : Oper, guardSt ops T o.guard = .unk t b) ∧
        (∀ j o, pickFrom ti ops T c Ms r = .idx j o → j ∈ i :: r ∧ ops[j]? = some o ∧ guardSt ops T o.guard = .go) :=
      ⟨fun j d s h => ⟨List.mem_cons_of_mem _ (ih.1 j d s h).1, (ih.1 j d s h).2⟩, fun j d h => ⟨List.mem_cons_of_mem _ (ih.2.1 j d h).1, (ih.2.1 j d h).2⟩, ih.2.2.1, fun j o h => ⟨List.mem_cons_of_mem _ (ih.2.2.2 j o h).1, (ih.2.2.2 j o h).2⟩⟩
    simp only [pickFrom]
    cases ho : nth ops i with
    | none => exact up
    | some o =>
      rw [nth_eq] at ho
      dsimp only
      cases hg : guardSt ops T o.guard with
      | go =>
        dsimp only
        cases hp : pureV ti T c Ms o.op with
        | some s =>
          dsimp only
          refine ⟨fun j d s' h => ?_, fun _ _ h => (by cases h), fun _ _ h => (by cases h), fun _ _ h => (by cases h)⟩
          cases h
          exact ⟨by simp, o, ho, hg, hp, rfl⟩
        | none =>
          dsimp only
          cases hi : isIdx o.op with
          | true =>
            dsimp only
            refine ⟨fun _ _ _ h => (by cases h), fun _ _ h => (by cases h), fun _ _ h => (by cases h), fun j o' h => ?_⟩
            cases h
            exact ⟨by simp, ho, hg⟩
          | false => dsimp only; exact up
      | no =>
        dsimp only
        refine ⟨fun _ _ _ h => (by cases h), fun j d h => ?_, fun _ _ h => (by cases h), fun _ _ h => (by cases h)⟩
        cases h
        exact ⟨by simp, o, ho, hg, rfl⟩
      | unk t b =>
        dsimp only
        refine ⟨fun _ _ _ h => (by cases h), fun _ _ h => (by cases h), fun t' b' h => ?_, fun _ _ h => (by cases h)⟩
        cases h
        exact ⟨o, hg⟩
      | bad => dsimp only; exact up

theorem vcD_sound (hti : ∀ t, TIok E.P t (ti t)) {ops : List Oper} {A0 : Nat → Nat} {n0 : Nat} {B0 : List (Nat × TypeId × Nat)} {Ms : List ((Nat × Nat) × SV)} {Fs : List Fct} {K : St → Prop} {ws : World} (hs : WD E A0 n0 B0 Ms Fs ws) (hns : Region.noSelect ops.toArray = true) (hap : apartAll ops.toArray = true) :
    ∀ (f : Nat) (L : List Bool) (T : List (Nat × SV)) (n c : Nat) (B : List (Nat × TypeId × Nat)) (M : List ((Nat × Nat) × SV)) (F : List Fct) (A : Nat → Nat) (a : Act) (w : World) (k : Nat),
      vcD E ti ops n0 B0 Ms Fs K f L (.mk T n c B M F) → InvD E A0 n0 B0 Ms Fs A n B M F w → (∀ w2, WD E A0 n0 B0 Ms Fs w2 → TD E A T n c a w2) → unl L ≤ k →
      wpAnyH E.P .any ops.toArray (postD E K) (fun w => WD E A0 n0 B0 Ms Fs w) k L.toArray a w
  | 0, _, _, _, _, _, _, _, _, _, _, _, hv, _, _, _ => (hv : False).elim
  | f + 1, L, T, n, c, B, M, F, A, a, w, k, hv, hI, hT, hk => by
    have hS := hI.start hs
    have hTw := hT w hS
    have hloc : ∀ w2, WD E A0 n0 B0 Ms Fs w2 → WD E A n0 B0 Ms Fs w2 := fun w2 h => h.agree (fun k hk => (hI.ag k hk).symm)
    have hQ : ∀ (c : List PanicEntry) (a1 a2 : Act) (w : World), postD E K (.panic c) a1 w → postD E K (.panic c) a2 w := fun _ _ _ _ h => h
    have hset : ∀ i, L.toArray.setIfInBounds i true = (setB L i).toArray := fun i => by rw [setB_eq]; simp
    have hunl : ∀ i, i ∈ readyB L 0 ops L → unl (setB L i) + 1 = unl L := fun i hi => by
      have := unl_ready (mem_readyB.1 hi)
      rw [hset] at this
      simpa using this
    obtain ⟨p1, p2, p3, p4⟩ := pick_spec (ti := ti) (ops := ops) (T := T) (c := c) (Ms := Ms) (readyB L 0 ops L)
    simp only [vcD] at hv
    split at hv
    · rename_i i d s hp
      obtain ⟨hmem, o, ho, hg, hpv, hod⟩ := p1 i d s hp
      have hu := hunl i hmem
      have hmem' := mem_readyB.1 hmem
      obtain ⟨k', rfl⟩ : ∃ k', k = k' + 1 := ⟨k - 1, by omega⟩
      have hval : ∀ w2, WD E A0 n0 B0 Ms Fs w2 → OKV E A n c w2 ((execOp a.eval o).run E.P w2) s := fun w2 h2 =>
        pureV_sound hti (fun k o v hv => by
          obtain ⟨_, g1, g2⟩ := (hloc w2 h2).mem k o v hv
          exact ⟨g1, SV.small_more g2 hI.hn⟩) (hT w2 h2) hpv
      have hy : YieldsIf E.P ops.toArray (fun w => WD E A0 n0 B0 Ms Fs w) o (s.den A) a := .inl ⟨guardSt_go hTw hg o rfl, fun w2 h2 => (hval w2 h2).1⟩
      refine wpAnyH_take (by simpa using ho) hns (free_of_apart hap hmem') (by simpa using hmem') (fun c a w h => h) hy hS ?_
      rw [hset]
      split at hv
      · rename_i d
        split at hv
        · rename_i hdn
          rw [hod]
          exact vcD_sound hti hs hns hap f _ _ n c B M F A _ w k' hv hI (fun w2 h2 => (hT w2 h2).put (by simpa using hdn) (hval w2 h2).2) (by omega)
        · exact hv.elim
      · rw [hod]
        exact vcD_sound hti hs hns hap f _ _ n c B M F A _ w k' hv hI hT (by omega)
    · rename_i i d hp
      obtain ⟨hmem, o, ho, hg, hod⟩ := p2 i d hp
      have hu := hunl i hmem
      have hmem' := mem_readyB.1 hmem
      obtain ⟨k', rfl⟩ : ∃ k', k = k' + 1 := ⟨k - 1, by omega⟩
      have hy : YieldsIf E.P ops.toArray (fun w => WD E A0 n0 B0 Ms Fs w) o undef a := .inr ⟨guardSt_no hTw hg o rfl, rfl⟩
      refine wpAnyH_take (by simpa using ho) hns (free_of_apart hap hmem') (by simpa using hmem') (fun c a w h => h) hy hS ?_
      rw [hset]
      split at hv
      · rename_i d
        split at hv
        · rename_i hdn
          rw [hod]
          exact vcD_sound hti hs hns hap f _ _ n c B M F A _ w k' hv hI (fun w2 h2 => (hT w2 h2).put (v := .v undef) (by simpa using hdn) trivial) (by omega)
        · exact hv.elim
      · rw [hod]
        exact vcD_sound hti hs hns hap f _ _ n c B M F A _ w k' hv hI hT (by omega)
    · rename_i t b hp
      obtain ⟨o, hg⟩ := p3 t b hp
      have hl := guardSt_unk hTw hg
      cases b with
      | true => exact vcD_sound hti hs hns hap f _ _ n c B M F A _ w k (hv.t rfl) hI (fun w2 h2 => (hT w2 h2).lit hl) hk
      | false => exact vcD_sound hti hs hns hap f _ _ n c B M F A _ w k (hv.f rfl) hI (fun w2 h2 => (hT w2 h2).lit hl) hk
    · rename_i i o hp
      obtain ⟨hmem, ho, hg⟩ := p4 i o hp
      have hu := hunl i hmem
      have hmem' := mem_readyB.1 hmem
      obtain ⟨k', rfl⟩ : ∃ k', k = k' + 1 := ⟨k - 1, by omega⟩
      obtain ⟨s, h1, d, hd, hv⟩ := hv.out A
      have hy : YieldsIf E.P ops.toArray (fun w => WD E A0 n0 B0 Ms Fs w) o (s.den A) a := .inl ⟨guardSt_go hTw hg o rfl, fun w2 h2 => (h1 a w2 (hloc w2 h2) (hT w2 h2)).1⟩
      refine wpAnyH_take (by simpa using ho) hns (free_of_apart hap hmem') (by simpa using hmem') (fun c a w h => h) hy hS ?_
      rw [hd.1, hset]
      exact vcD_sound hti hs hns hap f _ _ n c B M F A _ w k' hv hI (fun w2 h2 => (hT w2 h2).put hd.lt (h1 a w2 (hloc w2 h2) (hT w2 h2)).2) (by omega)
    · split at hv
      · rename_i hr
        refine wpAnyH_done (List.eq_nil_iff_forall_not_mem.2 fun i hi => ?_) ⟨_, ⟨A, hI.hw, hTw⟩, hv⟩ k
        rw [← mem_readyB, hr] at hi
        cases hi
      · rename_i i0 r hr
        have hmem0 : i0 ∈ readyB L 0 ops L := by rw [hr]; simp
        have hu := hunl i0 hmem0
        obtain ⟨k', rfl⟩ : ∃ k', k = k' + 1 := ⟨k - 1, by omega⟩
        refine wpAnyH_all rfl (fun e => by have := mem_readyB.1 hmem0; rw [e] at this; cases this) fun i hi => ?_
        have hmem := mem_readyB.2 hi
        have hvi := allR_mem hv i (by rw [← hr]; exact hmem)
        have hui := hunl i hmem
        cases ho : nth ops i with
        | none => rw [ho] at hvi; exact hvi.elim
        | some o =>
          rw [ho] at hvi
          simp only at hvi
          rw [nth_eq] at ho
          split at hvi
          · rename_i hg
            unfold wpOp
            simp only [show ops.toArray[i]? = some o by simpa using ho, guardSt_go hTw hg o rfl, if_true]
            refine .inl (effD_sound hti hvi hI hs hTw ?_)
            intro A' T' n' c' B' M' F' a' w' hI' hT' hn
            rw [hset]
            exact ⟨hI'.start hs, vcD_sound hti hs hns hap f _ _ n' c' B' M' F' A' a' w' k' hn hI' (fun w2 _ => hT' w2) (by omega)⟩
          · exact hvi.elim

/-- Facts out of a state's, each by its number there. -/
def FK (F : List Fct) : List Nat → List Fct → Prop
  | [], [] => True
  | i :: ix, f :: r => F[i]? = some f ∧ FK F ix r
  | _, _ => False
theorem FK.fw {F : List Fct} : ∀ {ix : List Nat} {Fs : List Fct}, FK F ix Fs → FW F ix Fs
  | [], [], _ => trivial
  | [], _ :: _, h => h.elim
  | _ :: _, [], h => h.elim
  | _ :: _, _ :: _, h => ⟨.inl ⟨_, h.1, rfl⟩, FK.fw h.2⟩
theorem FK.keep {F : List Fct} : ∀ {ix : List Nat} {Fs : List Fct}, FK F ix Fs → keepF Fs F
  | [], [], _ => fun f hf => by cases hf
  | [], _ :: _, h => h.elim
  | _ :: _, [], h => h.elim
  | _ :: _, _ :: _, h => fun f hf => by
    rcases List.mem_cons.1 hf with rfl | hf
    · exact List.mem_of_getElem? h.1
    · exact FK.keep h.2 f hf
theorem unl_replicate : ∀ n : Nat, unl (List.replicate n false) = n
  | 0 => rfl
  | n + 1 => by simp [List.replicate_succ, unl, unl_replicate n]

/-- THE BEGINNING OF A REGION THAT DRAWS: Ms: the cells that nobody in the region writes and that it reads; ix: the facts that stand through it. -/
theorem draw_start {id : Nat} {ops : Array Oper} {T : List (Nat × SV)} {n c : Nat} {B : List (Nat × TypeId × Nat)} {M : List ((Nat × Nat) × SV)} {F : List Fct} {K : St → Prop} (hti : ∀ t, TIok E.P t (ti t)) (hm : E.P.follows .mixedOrders = true) (hns : Region.noSelect ops = true) (hap : apartAll ops = true)
    (fuel : Nat) (Ms : List ((Nat × Nat) × SV)) (ix : List Nat) (Fs : List Fct) (hM : MW M n Ms) (hMB : MBW B Ms) (hF : FK F ix Fs) (hix : nodupB ix = true)
    (hv : vcD E ti ops.toList n B Ms Fs K fuel (falses ops.toList) (.mk T n (c + 1) B M F)) :
    DrawW (∀ a w, Den E (.mk T n c B M F) a w → (Code.region id ops true).wp E.P (postD E K) a w) := by
  refine ⟨fun a w hd => ?_⟩
  obtain ⟨A, hW, hT⟩ := hd
  have hdr : Ext w { w with drawn := w.drawn + 1 } := ⟨rfl, rfl, rfl, Nat.le_refl _, fun _ _ _ => rfl⟩
  have hW' := hW.growExt hdr
  have hs : WD E A n B Ms Fs { w with drawn := w.drawn + 1 } := by
    have hp := hW'.pick ix hF.fw hix
    refine ⟨hp.key, hp.inj, fun k o v hv => ?_, hp.a0, hp.n0, hp.ext, hp.fct, hp.dj⟩
    obtain ⟨h1, h2⟩ := MW_all hM k o v hv
    exact ⟨MBW_all hMB k o v hv, (hp.mem k o v h1).2.1, h2⟩
  refine wp_region_held (S := fun w => WD E A n B Ms Fs w) hm ?_
  have := vcD_sound hti (ops := ops.toList) (K := K) hs (by simpa using hns) (by simpa using hap) fuel (falses ops.toList) T n (c + 1) B M F A a { w with drawn := w.drawn + 1 } ops.size hv
    ⟨fun _ _ => rfl, Nat.le_refl _, fun _ h => h, fun k o v hv => (MW_all hM k o v hv).1, hF.keep, hW'⟩ (fun w2 _ => hT.step w2) (by simp [falses_eq, unl_replicate])
  rw [Array.toArray_toList, falses_eq] at this
  simp only [Array.length_toList, List.toArray_replicate] at this
  exact this
/-- A region's many ends are brought to one form. -/
theorem draw_cut {id : Nat} {ops : Array Oper} {s : St} {K : St → Prop} (Y : Type) (S : Y → St)
    (h1 : DrawW (∀ a w, Den E s a w → (Code.region id ops true).wp E.P (postD E (fun s' => ∃ y, Weak E s' (S y))) a w)) (h2 : ∀ y, K (S y)) :
    DrawW (∀ a w, Den E s a w → (Code.region id ops true).wp E.P (postD E K) a w) := by
  refine ⟨fun a w hd => Code.wp_mono (fun e a w h => ?_) (h1.out a w hd)⟩
  cases e with
  | normal =>
    obtain ⟨s', hs, y, hw⟩ := h
    exact ⟨S y, hw _ _ hs, h2 y⟩
  | _ => exact h
end

section
variable {E : Env} {ti : Nat → TI} {A : Nat → Nat} {T : List (Nat × SV)} {n c : Nat} {B : List (Nat × TypeId × Nat)} {M Ms : List ((Nat × Nat) × SV)} {F Fs : List Fct} {o : Oper} {next : St → Prop}
/-- Which operation it is. -/
theorem opd_call (f : FuncId) {cap : List (Nat × Nat)} {k : Call} {fo : Operand} (_hop : o.op = .call k) (_hk : k.callee = .value fo) (_hf : evalO T fo = some (.f f cap)) (h : OpW (opD E o Ms Fs next T n c B M F)) : OpW (opD E o Ms Fs next T n c B M F) := h
theorem opd_app {k : Call} (_hop : o.op = .call k) (_hk : k.callee = .builtin .append) (h : OpW (opD E o Ms Fs next T n c B M F)) : OpW (opD E o Ms Fs next T n c B M F) := h
/-- A call, in a region that draws. -/
theorem d_call (R : Value → List Fct → Prop) {k : Call} {fo : Operand} {g : FuncId} {cap : List (Nat × Nat)} {l : List SV} {d : Nat} (hc : callable E.P g = true)
    (hop : o.op = .call k) (hk : k.callee = .value fo) (hf : evalO T fo = some (.f g cap)) (ha : evalOs T k.args.toList = some l) (hd : Dst E o d)
    (hcall : ∀ A w, WD E A n B M F w → Calls E.P g ((l.map (SV.den A)) ++ cap.map (fun x => ptr A x.1 x.2)).toArray w (Ret w R))
    (hnext : ∀ v L, R v L → next (.mk ((d, .v v) :: T) n (c + 1) B M (L ++ F))) :
    OpW (opD E o Ms Fs next T n c B M F) := by
  refine ⟨opD0.up fun hkf A a w hW hT => ?_⟩
  have hargs : (k.args.map a.eval).toList = l.map (SV.den A) := by rw [Array.toList_map]; exact evalOs_sound hT ha
  have hfv := (evalO_sound hT hf).1
  have hr : (execOp a.eval o).run E.P w = .ok (.enter g ((l.map (SV.den A)) ++ cap.map (fun x => ptr A x.1 x.2)).toArray) w := by
    have hcat : (k.args.map a.eval) ++ (cap.map (fun x => ptr A x.1 x.2)).toArray = ((l.map (SV.den A)) ++ cap.map (fun x => ptr A x.1 x.2)).toArray := by
      apply Array.ext'; rw [Array.toList_append, hargs]
    simp only [execOp, hop, resolve, hk, Sem.run_bind, hfv, SV.den, Deferred.ofValue, Sem.run_pure, Result.andThen_ok, Array.empty_append, invoke, hcat, run_callFunc hc]
  unfold Oper.wp
  rw [hr, Oper.upon_enter]
  refine (hcall A w hW).mono ?_
  rintro e w' ⟨v, L, rfl, he, hL, hR⟩
  refine ⟨_, _, _, hW.learn he hL, fun w2 => ?_, fun f hf => List.mem_append_right _ (hkf f hf), hnext v L hR⟩
  rw [hd.1]
  exact (hT.step w2).put (v := .v v) hd.lt trivial
/-- append, in a region that draws. -/
theorem d_app {α : Type} {enc : α → List Value} {sz : Nat} (he : Enc enc sz) (k1 : Nat) {xs ys : List α} {i j : Sl} {k : Call} {t e : TypeId} {x y : Operand} {d : Nat} {agg : Bool} {size : Nat} {zero : List Value} {fs : List (Nat × Nat × Bool)} {ik : Option IntKind} {kk bytes : Nat} {agg2 : Bool} {zero2 : List Value} {fs2 : List (Nat × Nat × Bool)} {el2 : Option TypeId} {ik2 : Option IntKind} {kk2 bytes2 : Nat}
    (hti : ∀ t, TIok E.P t (ti t)) (hop : o.op = .call k) (hk : k.callee = .builtin .append) (ha : k.args.toList = [x, y]) (hty : k.argTypes.toList = [t, t])
    (hx : evalO T x = some (.v (i.val xs.length))) (hy : evalO T y = some (.v (j.val ys.length)))
    (ht : ti t = .mk agg size zero fs (some e) ik kk bytes) (hte : ti e = .mk agg2 sz zero2 fs2 el2 ik2 kk2 bytes2) (hz2 : listLen zero2 = sz) (hsz0 : 0 < sz) (hd : Dst E o d)
    (hF1 : F[k1]? = some (own i e enc sz xs)) (hF2 : ∀ w, (∀ f ∈ F, f.P w) → RdS w j sz (cells enc ys) ys.length)
    (hb : (xs.length + ys.length) * bytes2 ≤ 140737488355328) (hm : xs.length + ys.length ≤ maxLen)
    (hkeep : keepF Fs F → keepF Fs (F.eraseIdx k1)) (hnext : ∀ y : Sl, next (.mk ((d, .v (y.val (xs ++ ys).length)) :: T) n (c + 1) B M (own y e enc sz (xs ++ ys) :: F.eraseIdx k1))) :
    OpW (opD E o Ms Fs next T n c B M F) := by
  refine ⟨opD0.up fun hkf A a w hW hT => ?_⟩
  have htt := hti t
  rw [ht] at htt
  obtain ⟨ii, dd, z, e1, e2, e3, e4, e5, e6, e7, e8, e9, e10, e11⟩ := tiSum_parts htt
  have htt2 := hti e
  rw [hte] at htt2
  obtain ⟨ii2, dd2, z2, g1, g2, g3, g4, g5, g6, g7, g8, g9, g10, g11⟩ := tiSum_parts htt2
  have hdd := el_slice e8
  have hown := (hW.nth k1 hF1).1
  have hrd := hF2 w (fun f hf => (hW.fct f hf).1)
  have hz : z2.cells.size = sz := by rw [← hz2, listLen_eq, ← g6]; simp
  obtain ⟨y', w', h1, h2, h3, h4⟩ := run_app (P := E.P) w o.type (by rw [e2, hdd]) g1 g5 g4 hz hsz0 hown hrd (cells_one he ys) (by rw [g11]; exact hb) hm
  have hr : (execOp a.eval o).run E.P w = .ok (.value (y'.val (xs.length + ys.length))) w' := by
    have hargs : k.args = #[x, y] := by apply Array.ext'; simpa using ha
    have htys : k.argTypes = #[t, t] := by apply Array.ext'; simpa using hty
    have hx' : a.eval x = i.val xs.length := (evalO_sound hT hx).1
    have hy' : a.eval y = j.val ys.length := (evalO_sound hT hy).1
    simp only [execOp, hop, resolve, hk, hargs, htys, Sem.run_bind, Sem.run_pure, Result.andThen_ok, invoke, builtin, List.map_toArray, List.map_cons, List.map_nil, hx', hy', h1]
  refine upon_of_value hr ?_
  rw [hd.1]
  have hn := hnext y'
  rw [List.length_append] at hn
  refine ⟨_, _, _, ?_, fun w2 => (hT.step w2).put (v := .v (y'.val (xs.length + ys.length))) hd.lt trivial, fun f hf => List.mem_cons_of_mem _ (hkeep hkf f hf), hn⟩
  have := hW.turn hF1 h3 (ds := cells enc xs ++ cells enc ys) h2 h4
  rw [← cells_append] at this
  show WD E A n B M (fOwn false y' e sz (cells enc (xs ++ ys)) (xs ++ ys).length :: F.eraseIdx k1) w'
  rw [List.length_append]
  exact this
/-- The same, the own slice found by search. -/
theorem d_appK {α : Type} {enc : α → List Value} {sz : Nat} (he : Enc enc sz) {k1 : Nat} {xs ys : List α} {i j : Sl} {k : Call} {t e : TypeId} {x y : Operand} {d : Nat} {agg : Bool} {size : Nat} {zero : List Value} {fs : List (Nat × Nat × Bool)} {ik : Option IntKind} {kk bytes : Nat} {agg2 : Bool} {zero2 : List Value} {fs2 : List (Nat × Nat × Bool)} {el2 : Option TypeId} {ik2 : Option IntKind} {kk2 bytes2 : Nat}
    (hti : ∀ t, TIok E.P t (ti t)) (hop : o.op = .call k) (hk : k.callee = .builtin .append) (ha : k.args.toList = [x, y]) (hty : k.argTypes.toList = [t, t])
    (hx : evalO T x = some (.v (i.val xs.length))) (hy : evalO T y = some (.v (j.val ys.length)))
    (ht : ti t = .mk agg size zero fs (some e) ik kk bytes) (hte : ti e = .mk agg2 sz zero2 fs2 el2 ik2 kk2 bytes2) (hz2 : listLen zero2 = sz) (hsz0 : 0 < sz) (hd : Dst E o d)
    (hF1 : IsAt F k1 (own i e enc sz xs)) (hF2 : ∀ w, (∀ f ∈ F, f.P w) → RdS w j sz (cells enc ys) ys.length)
    (hb : (xs.length + ys.length) * bytes2 ≤ 140737488355328) (hm : xs.length + ys.length ≤ maxLen)
    (hkeep : keepF Fs F → keepF Fs (F.eraseIdx k1)) (hnext : ∀ y : Sl, next (.mk ((d, .v (y.val (xs ++ ys).length)) :: T) n (c + 1) B M (own y e enc sz (xs ++ ys) :: F.eraseIdx k1))) :
    OpW (opD E o Ms Fs next T n c B M F) :=
  d_app he k1 hti hop hk ha hty hx hy ht hte hz2 hsz0 hd hF1.h hF2 hb hm hkeep hnext
/-- append onto nil, in a region that draws. -/
theorem d_app0 {α : Type} {enc : α → List Value} {sz : Nat} (he : Enc enc sz) {ys : List α} {j : Sl} {k : Call} {t e : TypeId} {x y : Operand} {d : Nat} {agg : Bool} {size : Nat} {zero : List Value} {fs : List (Nat × Nat × Bool)} {ik : Option IntKind} {kk bytes : Nat} {agg2 : Bool} {zero2 : List Value} {fs2 : List (Nat × Nat × Bool)} {el2 : Option TypeId} {ik2 : Option IntKind} {kk2 bytes2 : Nat}
    (hti : ∀ t, TIok E.P t (ti t)) (hop : o.op = .call k) (hk : k.callee = .builtin .append) (ha : k.args.toList = [x, y]) (hty : k.argTypes.toList = [t, t])
    (hx : evalO T x = some (.v (.slice none 0 0))) (hy : evalO T y = some (.v (j.val ys.length)))
    (ht : ti t = .mk agg size zero fs (some e) ik kk bytes) (hte : ti e = .mk agg2 sz zero2 fs2 el2 ik2 kk2 bytes2) (hz2 : listLen zero2 = sz) (hsz0 : 0 < sz) (hd : Dst E o d)
    (hF2 : ∀ w, (∀ f ∈ F, f.P w) → RdS w j sz (cells enc ys) ys.length)
    (hb : ys.length * bytes2 ≤ 140737488355328) (hm : ys.length ≤ maxLen)
    (hnext : ∀ y : Sl, next (.mk ((d, .v (y.val ys.length)) :: T) n (c + 1) B M (own y e enc sz ys :: F))) :
    OpW (opD E o Ms Fs next T n c B M F) := by
  refine ⟨opD0.up fun hkf A a w hW hT => ?_⟩
  have htt := hti t
  rw [ht] at htt
  obtain ⟨ii, dd, z, e1, e2, e3, e4, e5, e6, e7, e8, e9, e10, e11⟩ := tiSum_parts htt
  have htt2 := hti e
  rw [hte] at htt2
  obtain ⟨ii2, dd2, z2, g1, g2, g3, g4, g5, g6, g7, g8, g9, g10, g11⟩ := tiSum_parts htt2
  have hdd := el_slice e8
  have hown : w.ownsRow 0 e sz ((⟨none, 0⟩ : Sl).val 0) 0 [] := World.ownsRow_nil w 0 e sz
  have hrd := hF2 w (fun f hf => (hW.fct f hf).1)
  have hz : z2.cells.size = sz := by rw [← hz2, listLen_eq, ← g6]; simp
  obtain ⟨y', w', h1, h2, h3, h4⟩ := run_app (P := E.P) w o.type (by rw [e2, hdd]) g1 g5 g4 hz hsz0 hown hrd (cells_one he ys) (by rw [g11, Nat.zero_add]; exact hb) (by rw [Nat.zero_add]; exact hm)
  simp only [Nat.zero_add, List.nil_append] at h1 h2 h4
  have hr : (execOp a.eval o).run E.P w = .ok (.value (y'.val ys.length)) w' := by
    have hargs : k.args = #[x, y] := by apply Array.ext'; simpa using ha
    have htys : k.argTypes = #[t, t] := by apply Array.ext'; simpa using hty
    have hx' : a.eval x = (⟨none, 0⟩ : Sl).val 0 := (evalO_sound hT hx).1
    have hy' : a.eval y = j.val ys.length := (evalO_sound hT hy).1
    simp only [execOp, hop, resolve, hk, hargs, htys, Sem.run_bind, Sem.run_pure, Result.andThen_ok, invoke, builtin, List.map_toArray, List.map_cons, List.map_nil, hx', hy', h1]
  refine upon_of_value hr ?_
  rw [hd.1]
  refine ⟨_, _, _, ?_, fun w2 => (hT.step w2).put (v := .v (y'.val ys.length)) hd.lt trivial, fun f hf => List.mem_cons_of_mem _ (hkf f hf), hnext y'⟩
  have hex : Ext w w' := ExtX.grown h3 (fun g hg => by simp [Sl.val, Value.ownBlock] at hg)
  refine hW.learn hex (L := [own y' e enc sz ys]) ⟨fun f hf => ?_, List.pairwise_singleton _ _⟩
  simp only [List.mem_singleton] at hf
  subst hf
  refine ⟨h2, rfl, ?_⟩
  rintro b ⟨ad, q1, rfl⟩
  have hlt := (h2.lt ad.block (by simp [Sl.val, Value.ownBlock, q1])).2
  simp only [Sl.val, Value.ownBlock, q1] at h4
  rcases h4 with h4 | h4
  · simp at h4
  · simp at h4
    rw [h4] at hlt ⊢
    exact ⟨Nat.le_refl _, hlt⟩
/-- An index, in a region that draws. -/
theorem d_idx {α : Type} {enc : α → List Value} {sz : Nat} (he : Enc enc sz) {t e : TypeId} {x ix : Operand} {i : Sl} {xs : List α} {kd : IntKind} {m : Int} {d : Nat} {agg : Bool} {size : Nat} {zero : List Value} {fs : List (Nat × Nat × Bool)} {ik : Option IntKind} {kk bytes : Nat} {agg2 : Bool} {zero2 : List Value} {fs2 : List (Nat × Nat × Bool)} {el2 : Option TypeId} {ik2 : Option IntKind} {kk2 bytes2 : Nat}
    (hti : ∀ t, TIok E.P t (ti t)) (hop : o.op = .indexAddr t x ix) (hx : evalO T x = some (.v (i.val xs.length))) (hix : evalO T ix = some (.v (.int kd m)))
    (ht : ti t = .mk agg size zero fs (some e) ik kk bytes) (hte : ti e = .mk agg2 sz zero2 fs2 el2 ik2 kk2 bytes2) (hd : Dst E o d)
    (hF : ∀ w, (∀ f ∈ Fs, f.P w) → RdS w i sz (cells enc xs) xs.length) (j : Nat) (hj : m = (j : Int)) (hlt : j < xs.length) {n0 : Nat} {B0 : List (Nat × TypeId × Nat)}
    (hnext : ∀ ad : Addr, next (.mk ((d, .e c ad (enc xs[j]) 0) :: T) n c B M F)) :
    OpW (∀ A, ∃ s : SV, (∀ a w, WD E A n0 B0 Ms Fs w → TD E A T n c a w → (execOp a.eval o).run E.P w = .ok (.value (s.den A)) w ∧ s.okT n c w) ∧ (∃ d, Dst E o d ∧ next (.mk ((d, s) :: T) n c B M F))) := by
  refine ⟨fun A => ?_⟩
  by_cases hex : ∃ ad, i.a = some ad
  · obtain ⟨ad, had⟩ := hex
    refine ⟨.e c (ad.add (j * sz)) (enc xs[j]) 0, fun a w hW hT => ?_, d, hd, hnext _⟩
    obtain ⟨h1, h2, h3, h4⟩ := hF w (fun f hf => (hW.fct f hf).1)
    obtain ⟨ad', had', hcs⟩ := h4 (by omega)
    rw [had] at had'
    injection had' with had'
    subst had'
    have htt := hti t
    rw [ht] at htt
    obtain ⟨ii, dd, z, e1, e2, e3, e4, e5, e6, e7, e8, e9, e10, e11⟩ := tiSum_parts htt
    have htt2 := hti e
    rw [hte] at htt2
    obtain ⟨ii2, dd2, z2, k1, k2, k3, k4, k5, k6, k7, k8, k9, k10, k11⟩ := tiSum_parts htt2
    have hdd := el_slice e8
    subst hj
    refine ⟨?_, Nat.le_refl _, fun _ q u hu => by
      rw [addr_add_add]
      exact hcs _ u (cells_at he hlt hu)⟩
    have hx' : a.eval x = .slice (some ad) xs.length i.c := by rw [(evalO_sound hT hx).1]; simp [SV.den, Sl.val, had]
    have hix' : a.eval ix = .int kd j := (evalO_sound hT hix).1
    simp [execOp, hop, Instr.indexAt, hx', hix', asIntOf, underlying, e2, hdd, run_sizeOf k1, k4, hlt, SV.den]
    simp [Addr.add]
  · refine ⟨.e c ⟨0, 0, none⟩ (enc xs[j]) 0, fun a w hW hT => ?_, d, hd, hnext _⟩
    obtain ⟨h1, h2, h3, h4⟩ := hF w (fun f hf => (hW.fct f hf).1)
    obtain ⟨ad', had', hcs⟩ := h4 (by omega)
    exact absurd ⟨ad', had'⟩ hex
end
end Go.Sx
