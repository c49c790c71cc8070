/- FnFormatState: texts that its proof stands on, part 2. -/
import Derived.OrdersHeld
import Derived.Laws.StructEq
import Derived.Laws.OwnMore
import Derived.Test.YtchkcjeeknfchaaGreatDoorQFormatStatea
namespace Go.Sx
set_option maxRecDepth 100000
set_option maxHeartbeats 100000000
open Go Go.RowKit
structure BothW (p q : Prop) : Prop where
 l : p
 r : q
inductive GSt where
 | go
 | no
 | unk (t : Nat) (b : Bool)
 | bad
def eG (ops : List Oper) (T : List (Nat × SV)) : Option (Nat × Bool) → GSt
 | none => .go
 | some (j, iV) => match eF0 ops T j with
   | some (_, .lit b) => (match b, iV with
     | true, true => .go
     | false, false => .go
     | true, false => .no
     | false, true => .no)
   | some (t, .v (.bool b)) => .unk t b
   | some (_, .v (.tuple _)) => .no
   | _ => .bad
def lB0 : Op → Bool
 | .indexAddr .. => true
 | .binOp .. => true
 | .slice .. => true
 | _ => false
inductive Pick where
 | pure (i : Nat) (d : Option Nat) (s : SV)
 | skip (i : Nat) (d : Option Nat)
 | split (t : Nat) (b : Bool)
 | idx (i : Nat) (o : Oper)
 | none
def eN (ti : Nat → TI) (ops : List Oper) (T : List (Nat × SV)) (c : Nat) (Ms : List ((Nat × Nat) × SV)) : List Nat → Pick
 | [] => .none
 | i :: r => match nth ops i with
   | some o => (match eG ops T o.guard with
     | .go => (match uU ti T c Ms o.op with
       | some s => .pure i o.dst s
       | none => (match lB0 o.op with
         | true => .idx i o
         | false => eN ti ops T c Ms r))
     | .no => .skip i o.dst
     | .unk t b => .split t b
     | .bad => eN ti ops T c Ms r)
   | none => eN ti ops T c Ms r
def jN0 : List Nat → (Nat → Prop) → Prop
 | [], _ => True
 | [i], p => p i
 | i :: r, p => BothW (p i) (jN0 r p)
theorem vE : ∀ {l : List Nat} {p : Nat → Prop}, jN0 l p → ∀ i ∈ l, p i
 | [], _, _, i, hi => by cases hi
 | [x], _, h, i, hi => by simp at hi; subst hi; exact h
 | x :: y :: r, _, h, i, hi => by
   obtain ⟨h1, h2⟩ := h
   rcases List.mem_cons.1 hi with rfl | hi
   · exact h1
   · exact vE h2 i hi
def tM : List ((Nat × Nat) × SV) → Nat → Nat → Nat → Bool
 | [], _, _, _ => true
 | ((k, o), _) :: r, k', o', l => match Nat.beq k k' with
   | true => (match Nat.blt o o' with
     | true => tM r k' o' l
     | false => (match Nat.blt o (o' + l) with
       | true => false
       | false => tM r k' o' l))
   | false => tM r k' o' l
theorem oT : ∀ {M : List ((Nat × Nat) × SV)} {k o l : Nat}, tM M k o l = true → ∀ k' o' v, dP M k' o' = some v → ¬ (k = k' ∧ o ≤ o' ∧ o' < o + l)
 | [], _, _, _, _, k', o', v, h => by simp [dP] at h
 | ((a, b), x) :: r, k, o, l, h, k', o', v, hv => by
   rw [kW] at hv
   simp only [tM] at h
   by_cases e : a = k' ∧ b = o'
   · obtain ⟨rfl, rfl⟩ := e
     split at h
     · rename_i hk
       have hk := Nat.eq_of_beq_eq_true hk
       split at h
       · rename_i hb
         have : b < o := by simpa using hb
         omega
       · split at h
         · cases h
         · rename_i hb
           have : ¬ b < o + l := fun h => by rw [show Nat.blt b (o + l) = true from by simpa using h] at hb; cases hb
           omega
     · rename_i hk
       have : ¬ a = k := fun e => by subst e; rw [Nat.beq_refl] at hk; cases hk
       omega
   · simp only [e, if_false] at hv
     split at h
     · split at h
       · exact oT h k' o' v hv
       · split at h
         · cases h
         · exact oT h k' o' v hv
     · exact oT h k' o' v hv
def iP (Fs F : List Fct) : Prop := ∀ f ∈ Fs, f ∈ F
def dL0 (Ms M : List ((Nat × Nat) × SV)) : Prop := ∀ k o v, dP Ms k o = some v → dP M k o = some v
def opD (E : Env) (o : Oper) (Ms : List ((Nat × Nat) × SV)) (Fs : List Fct) (next : St → Prop) (T : List (Nat × SV)) (n c : Nat) (B : List (Nat × TypeId × Nat)) (M : List ((Nat × Nat) × SV)) (F : List Fct) : Prop :=
 dL0 Ms M → iP Fs F → ∀ A a w, WD E A n B M F w → TD E A T n c a w → o.wp E.P a w (fun a' w' => ∃ A' T' n' c' B' M' F', (∀ k, k < n → A' k = A k) ∧ n ≤ n' ∧ (∀ x ∈ B, x ∈ B') ∧ dL0 Ms M' ∧ iP Fs F' ∧ WD E A' n' B' M' F' w' ∧ (∀ w2, TD E A' T' n' c' a' w2) ∧ next (.mk T' n' c' B' M' F')) (fun _ _ _ => False)
def opD0 (E : Env) (o : Oper) (Fs : List Fct) (next : St → Prop) (T : List (Nat × SV)) (n c : Nat) (B : List (Nat × TypeId × Nat)) (M : List ((Nat × Nat) × SV)) (F : List Fct) : Prop :=
 iP Fs F → ∀ A a w, WD E A n B M F w → TD E A T n c a w → o.wp E.P a w (fun a' w' => ∃ T' c' F', WD E A n B M F' w' ∧ (∀ w2, TD E A T' n c' a' w2) ∧ iP Fs F' ∧ next (.mk T' n c' B M F')) (fun _ _ _ => False)
theorem opD0.up {E : Env} {o : Oper} {Ms : List ((Nat × Nat) × SV)} {Fs : List Fct} {next : St → Prop} {T : List (Nat × SV)} {n c : Nat} {B : List (Nat × TypeId × Nat)} {M : List ((Nat × Nat) × SV)} {F : List Fct} (h : opD0 E o Fs next T n c B M F) : opD E o Ms Fs next T n c B M F := by
 intro hm hf A a w hW hT
 have := h hf A a w hW hT
 refine Oper.wp_mono (Q := fun _ _ _ => False) ?_ this
 rintro a' w' ⟨T', c', F', h1, h2, h3, h4⟩
 exact ⟨A, T', n, c', B, M, F', fun _ _ => rfl, Nat.le_refl _, fun _ h => h, hm, h3, h1, h2, h4⟩
def jO0 (E : Env) (ti : Nat → TI) (o : Oper) (Ms : List ((Nat × Nat) × SV)) (Fs : List Fct) (next : St → Prop) (T : List (Nat × SV)) (n c : Nat) (B : List (Nat × TypeId × Nat)) (M : List ((Nat × Nat) × SV)) (F : List Fct) : Op → Prop
 | .alloc t => (match ti t with
   | .mk _ sz zero _ _ _ _ _ => (match o.dst with
     | some d => (match Nat.blt d E.N with
       | true => (match Nat.beq (dO zero) sz with
         | true => jW n 0 (zero.map .v) M fun M' => next (.mk ((d, .p n 0) :: T) (n + 1) (c + 1) ((n, t, sz) :: B) M' F)
         | false => False)
       | false => False)
     | none => False)
   | .none => False)
 | .load t x => (match zS (ti t) T c M x with
   | some s => (match o.dst with
     | some d => (match Nat.blt d E.N with
       | true => (match s with
         | .e .. => False
         | s => next (.mk ((d, s) :: T) n (c + 1) B M F))
       | false => False)
     | none => False)
   | none => OpW (opD E o Ms Fs next T n c B M F))
 | .store t x y => (match o.dst with
   | some _ => False
   | none => (match aY T x with
     | some (.p k off) => (match ti t with
       | .mk _ sz _ _ _ _ _ _ => (match aY T y with
         | some s => (match iM s with
           | some l => (match Nat.beq (dO l) sz with
             | true => (match uW B k with
               | some bsz => (match Nat.ble (off + sz) bsz with
                 | true => (match tM Ms k off sz with
                   | true => jW k off l M fun M' => next (.mk T n (c + 1) B M' F)
                   | false => False)
                 | false => False)
               | none => False)
             | false => False)
           | none => False)
         | none => False)
       | .none => False)
     | _ => OpW (opD E o Ms Fs next T n c B M F)))
 | .buildSlice t len ps => (match ti t with
   | .mk _ _ _ _ (some e) _ _ _ => (match ti e with
     | .mk _ esz _ _ _ _ _ _ => (match o.dst with
       | some d => (match Nat.blt d E.N with
         | true => (match Nat.beq (dO ps.toList) len with
           | true => (match Nat.ble (len * esz + len) 16777216 with
             | true => (match oN T esz 0 ps.toList with
               | some cs => AllSl fun y => next (.mk ((d, .v (y.val len)) :: T) n (c + 1) B M (gX false y e esz cs len :: F))
               | none => False)
             | false => False)
           | false => False)
         | false => False)
       | none => False)
     | .none => False)
   | _ => False)
 | _ => OpW (opD E o Ms Fs next T n c B M F)
def bP0 : List Bool → Nat → Bool
 | [], _ => false
 | b :: _, 0 => b
 | _ :: r, n + 1 => bP0 r n
def mG : List Bool → Nat → List Bool
 | [], _ => []
 | _ :: r, 0 => true :: r
 | b :: r, n + 1 => b :: mG r n
def qK : List Oper → List Bool
 | [] => []
 | _ :: r => false :: qK r
def uF (L : List Bool) : List Edge → Bool
 | [] => true
 | e :: r => match e.ground with
   | .textOnly _ => uF L r
   | .gcOnly _ => uF L r
   | _ => (match bP0 L e.on with
     | true => uF L r
     | false => false)
def fM (L : List Bool) : Nat → List Oper → List Bool → List Nat
 | k, o :: r, b :: l => (match b with
   | true => fM L (k + 1) r l
   | false => (match uF L o.after.toList with
     | true => k :: fM L (k + 1) r l
     | false => fM L (k + 1) r l))
 | _, _, _ => []
def yH (o : Oper) (i : Nat) : Bool := o.after.any fun e => Region.binds .any e && e.on == i
def mU (ops : Array Oper) : Bool := (List.range ops.size).all fun i => (List.range ops.size).all fun j => match ops[i]?, ops[j]? with
 | some x, some y => i == j || yH x j || yH y i || x.apart ops y
 | _, _ => true
theorem dM0 : ∀ (L : List Bool) (i : Nat), bP0 L i = L.toArray.getD i false
 | [], i => by simp [bP0]
 | b :: r, 0 => by simp [bP0]
 | b :: r, i + 1 => by rw [bP0, dM0 r i]; simp [Array.getD_eq_getD_getElem?]
theorem yI : ∀ (L : List Bool) (i : Nat), mG L i = L.set i true
 | [], i => by simp [mG]
 | b :: r, 0 => by simp [mG]
 | b :: r, i + 1 => by rw [mG, yI r i]; simp
theorem mV : ∀ (l : List Oper), qK l = List.replicate l.length false
 | [] => rfl
 | _ :: r => by rw [qK, mV r, List.length_cons, List.replicate_succ]
theorem yJ (L : List Bool) : ∀ (es : List Edge), uF L es = true ↔ ∀ e ∈ es, Region.binds .any e = true → L.toArray.getD e.on false = true
 | [] => by simp [uF]
 | e :: r => by
   rw [List.forall_mem_cons, ← yJ L r, ← dM0]
   have e1 : (Region.Mode.any == Region.Mode.text) = false := rfl
   have e2 : (Region.Mode.any == Region.Mode.gc) = false := rfl
   cases hg : e.ground <;> cases hn : bP0 L e.on <;> simp [uF, Region.binds, hg, hn, e1, e2]
theorem tN (L : List Bool) : ∀ (ops : List Oper) (l : List Bool) (k i : Nat), i ∈ fM L k ops l ↔ ∃ j, i = k + j ∧ l[j]? = some false ∧ ∃ o, ops[j]? = some o ∧ uF L o.after.toList = true
 | [], l, k, i => by cases l <;> simp [fM]
 | o :: r, [], k, i => by simp [fM]
 | o :: r, b :: l, k, i => by
   have ih := tN L r l (k + 1) i
   have e : (∃ j, i = k + j ∧ (b :: l)[j]? = some false ∧ ∃ x, (o :: r)[j]? = some x ∧ uF L x.after.toList = true) ↔ (i = k ∧ b = false ∧ uF L o.after.toList = true) ∨ (∃ j, i = k + 1 + j ∧ l[j]? = some false ∧ ∃ x, r[j]? = some x ∧ uF L x.after.toList = true) := by
     constructor
     · rintro ⟨j, h1, h2, x, h3, h4⟩
       cases j with
       | zero =>
         simp only [List.getElem?_cons_zero, Option.some.injEq] at h2 h3
         subst h3
         exact .inl ⟨h1, h2, h4⟩
       | succ j => exact .inr ⟨j, by omega, by simpa using h2, x, by simpa using h3, h4⟩
     · rintro (⟨h1, h2, h3⟩ | ⟨j, h1, h2, x, h3, h4⟩)
       · exact ⟨0, h1, by simp [h2], o, by simp, h3⟩
       · exact ⟨j + 1, by omega, by simpa using h2, x, by simpa using h3, h4⟩
   rw [e, ← ih]
   cases b with
   | true => simp [fM]
   | false => cases hr : uF L o.after.toList <;> simp [fM, hr]
theorem dA {L : List Bool} {ops : List Oper} {i : Nat} : i ∈ fM L 0 ops L ↔ i ∈ Region.ready .any ops.toArray L.toArray := by
 rw [tN, mem_ready]
 constructor
 · rintro ⟨j, h1, h2, o, h3, h4⟩
   obtain rfl : i = j := by omega
   exact ⟨by simp [Array.getD_eq_getD_getElem?, h2], o, by simpa using h3, fun e he => (yJ L _).1 h4 e (by simpa using he)⟩
 · rintro ⟨h2, o, h3, h4⟩
   refine ⟨i, by omega, ?_, o, by simpa using h3, (yJ L _).2 fun e he => h4 e (by simpa using he)⟩
   rw [Array.getD_eq_getD_getElem?] at h2
   simp only [List.getElem?_toArray] at h2
   cases hx : L[i]? with
   | none => rw [hx] at h2; simp at h2
   | some b => rw [hx] at h2; simp at h2; rw [h2]
theorem fX {ops : List Oper} (h : mU ops.toArray = true) {L : List Bool} {i : Nat} (hi : i ∈ Region.ready .any ops.toArray L.toArray) : Region.free .any ops.toArray L.toArray i = true := by
 obtain ⟨h1, o, h2, h3⟩ := mem_ready.1 hi
 unfold Region.free
 rw [h2]
 simp only [List.all_eq_true]
 intro j hj
 have hil : i < ops.toArray.size := (Array.getElem?_eq_some_iff.1 h2).1
 simp only [mU, List.all_eq_true] at h
 have hij := h i (by simpa using hil) j hj
 rw [h2] at hij
 cases hjo : ops.toArray[j]? with
 | none => simp
 | some oj =>
   rw [hjo] at hij
   simp only [Bool.or_eq_true] at hij ⊢
   rcases hij with ((hij | hij) | hij) | hij
   · exact .inl (.inl (by simp only [beq_iff_eq] at hij ⊢; exact hij.symm))
   · left; right
     simp only [yH, Array.any_eq_true', Bool.and_eq_true, beq_iff_eq] at hij
     obtain ⟨e, he, hb, rfl⟩ := hij
     have := h3 e he hb
     rw [Array.getD_eq_getD_getElem?] at this ⊢
     cases hx : L.toArray[e.on]? with
     | none => rw [hx] at this; simp at this
     | some b => rw [hx] at this; simp at this; simp [this]
   · right; left; exact hij
   · right; right; exact hij
def vcD (E : Env) (ti : Nat → TI) (ops : List Oper) (n0 : Nat) (B0 : List (Nat × TypeId × Nat)) (Ms : List ((Nat × Nat) × SV)) (Fs : List Fct) (K : St → Prop) : Nat → List Bool → St → Prop
 | 0, _, _ => False
 | f + 1, L, .mk T n c B M F => match eN ti ops T c Ms (fM L 0 ops L) with
   | .pure i d s => (match d with
       | some d => (match Nat.blt d E.N with
         | true => vcD E ti ops n0 B0 Ms Fs K f (mG L i) (.mk ((d, s) :: T) n c B M F)
         | false => False)
       | none => vcD E ti ops n0 B0 Ms Fs K f (mG L i) (.mk T n c B M F))
   | .skip i d => (match d with
       | some d => (match Nat.blt d E.N with
         | true => vcD E ti ops n0 B0 Ms Fs K f (mG L i) (.mk ((d, .v undef) :: T) n c B M F)
         | false => False)
       | none => vcD E ti ops n0 B0 Ms Fs K f (mG L i) (.mk T n c B M F))
   | .split t b => CaseB b (vcD E ti ops n0 B0 Ms Fs K f L (.mk ((t, .lit true) :: T) n c B M F)) (vcD E ti ops n0 B0 Ms Fs K f L (.mk ((t, .lit false) :: T) n c B M F))
   | .idx i o => OpW (∀ A, ∃ s : SV, (∀ a w, WD E A n0 B0 Ms Fs w → TD E A T n c a w → (execOp a.eval o).run E.P w = .ok (.value (s.den A)) w ∧ s.okT n c w) ∧ (∃ d, Dst E o d ∧ vcD E ti ops n0 B0 Ms Fs K f (mG L i) (.mk ((d, s) :: T) n c B M F)))
   | .none => (match fM L 0 ops L with
     | [] => K (.mk T n c B M F)
     | i :: r => jN0 (i :: r) fun i => match nth ops i with
       | some o => (match eG ops T o.guard with
         | .go => jO0 E ti o Ms Fs (fun s' => vcD E ti ops n0 B0 Ms Fs K f (mG L i) s') T n c B M F o.op
         | _ => False)
       | none => False)
section
variable {E : Env} {ti : Nat → TI}
theorem wW {A A' : Nat → Nat} {n : Nat} (h : ∀ k, k < n → A k = A' k) {v : SV} (hv : v.small n) : v.den A = v.den A' := by
 cases v with
 | p k o => simp [SV.den, ptr, h k hv]
 | f g cap =>
   simp only [SV.den]
   congr 2
   apply List.map_congr_left
   intro x hx
   simp [ptr, h x.1 (hv x hx)]
 | _ => rfl
theorem WD.agree {A A' : Nat → Nat} {n : Nat} {B : List (Nat × TypeId × Nat)} {M : List ((Nat × Nat) × SV)} {F : List Fct} {w : World} (h : WD E A n B M F w) (ha : ∀ k, k < n → A k = A' k) : WD E A' n B M F w := by
 refine ⟨?_, ?_, ?_, ?_, h.n0, h.ext, ?_, h.dj⟩
 · intro k ty sz hk
   have := h.key k ty sz hk
   rw [ha k this.1] at this
   exact this
 · intro k ty sz k' ty' sz' hk hk' e
   rw [← ha k (h.key _ _ _ hk).1, ← ha k' (h.key _ _ _ hk').1] at e
   exact h.inj _ _ _ _ _ _ hk hk' e
 · intro k o v hv
   obtain ⟨⟨ty, sz, hk⟩, h2, h3⟩ := h.mem k o v hv
   refine ⟨⟨ty, sz, hk⟩, ?_, h3⟩
   rw [← ha k (h.key _ _ _ hk).1, ← wW ha h3]
   exact h2
 · intro k hk
   rw [← ha k (Nat.lt_of_lt_of_le hk h.n0)]
   exact h.a0 k hk
 · intro f hf
   obtain ⟨h1, h2, h3⟩ := h.fct f hf
   exact ⟨h1, fun b hb => ⟨(h2 b hb).1, fun k ty sz hk => by rw [← ha k (h.key _ _ _ hk).1]; exact (h2 b hb).2 k ty sz hk⟩, h3⟩
structure InvD (E : Env) (A0 : Nat → Nat) (n0 : Nat) (B0 : List (Nat × TypeId × Nat)) (Ms : List ((Nat × Nat) × SV)) (Fs : List Fct) (A : Nat → Nat) (n : Nat) (B : List (Nat × TypeId × Nat)) (M : List ((Nat × Nat) × SV)) (F : List Fct) (w : World) : Prop where
 ag : ∀ k, k < n0 → A k = A0 k
 hn : n0 ≤ n
 hb : ∀ x ∈ B0, x ∈ B
 hm : ∀ k o v, dP Ms k o = some v → dP M k o = some v
 hf : iP Fs F
 hw : WD E A n B M F w
theorem InvD.start {A0 A : Nat → Nat} {n0 n : Nat} {B0 B : List (Nat × TypeId × Nat)} {Ms M : List ((Nat × Nat) × SV)} {Fs F : List Fct} {w ws : World} (h : InvD E A0 n0 B0 Ms Fs A n B M F w) (hs : WD E A0 n0 B0 Ms Fs ws) : WD E A0 n0 B0 Ms Fs w := by
 refine ⟨?_, ?_, ?_, hs.a0, hs.n0, h.hw.ext, ?_, hs.dj⟩
 · intro k ty sz hk
   obtain ⟨h1, _⟩ := hs.key k ty sz hk
   obtain ⟨_, h2⟩ := h.hw.key k ty sz (h.hb _ hk)
   rw [h.ag k h1] at h2
   exact ⟨h1, h2⟩
 · exact hs.inj
 · intro k o v hv
   obtain ⟨⟨ty, sz, hk⟩, _, h3⟩ := hs.mem k o v hv
   refine ⟨⟨ty, sz, hk⟩, ?_, h3⟩
   have := (h.hw.mem k o v (h.hm k o v hv)).2.1
   rw [h.ag k (hs.key _ _ _ hk).1, wW h.ag h3] at this
   exact this
 · intro f hf
   obtain ⟨h1, h2, h3⟩ := h.hw.fct f (h.hf f hf)
   exact ⟨h1, fun b hb => ⟨(h2 b hb).1, fun k ty sz hk => by rw [← h.ag k (hs.key _ _ _ hk).1]; exact (h2 b hb).2 k ty sz (h.hb _ hk)⟩, h3⟩
theorem oU {A : Nat → Nat} {T : List (Nat × SV)} {n c : Nat} {a : Act} {w : World} (hti : ∀ t, aT E.P t (ti t)) (hT : TD E A T n c a w) {o : Oper} {t e len : Nat} {ps : Array (Nat × Operand)} {agg : Bool} {size : Nat} {zero : List Value} {fs : List (Nat × Nat × Bool)} {ik : Option IntKind} {kd bytes : Nat} {agg2 : Bool} {esz : Nat} {zero2 : List Value} {fs2 : List (Nat × Nat × Bool)} {el2 : Option TypeId} {ik2 : Option IntKind} {kd2 bytes2 : Nat} {cs : List Value}
   (hop : o.op = .buildSlice t len ps) (hte : ti t = .mk agg size zero fs (some e) ik kd bytes) (hte2 : ti e = .mk agg2 esz zero2 fs2 el2 ik2 kd2 bytes2) (hplen : Nat.beq (dO ps.toList) len = true) (h24 : Nat.ble (len * esz + len) 16777216 = true) (hcs : oN T esz 0 ps.toList = some cs) :
   (execOp a.eval o).run E.P w = .ok (.value (.slice (some ⟨w.heap.size, 0, none⟩) len len)) (w.alloc (.cells cs.toArray e)) ∧ Ext w (w.alloc (.cells cs.toArray e)) ∧ New w (w.alloc (.cells cs.toArray e)) [gX false ⟨some ⟨w.heap.size, 0, none⟩, len⟩ e esz cs len] := by
 have htt := hti t
 rw [hte] at htt
 obtain ⟨ii, dd, z, e1, e2, e3, e4, e5, e6, e7, e8, e9, e10, e11⟩ := aP htt
 have htt2 := hti e
 rw [hte2] at htt2
 obtain ⟨ii2, dd2, z2, k1, k2, k3, k4, k5, k6, k7, k8, k9, k10, k11⟩ := aP htt2
 have hdd := fT e8
 have hlen := Nat.eq_of_beq_eq_true hplen
 rw [dN] at hlen
 have h24' := Nat.le_of_ble_eq_true h24
 obtain ⟨r, g1, g2, g3⟩ : ∃ r, cs.length = len * esz ∧ Instr.fill (fun i => some (i * esz, esz)) ((Array.range (len * esz)).map (((if len * esz = 0 then #[] else z2.cells) : Array Value)[· % ((if len * esz = 0 then #[] else z2.cells) : Array Value).size]!)) (ps.toList.map fun x => (x.1, a.eval x.2)) = some r ∧ r.toList = cs := by
   obtain ⟨q1, r, q2, q3⟩ := qI hT (acc := (Array.range (len * esz)).map (((if len * esz = 0 then #[] else z2.cells) : Array Value)[· % ((if len * esz = 0 then #[] else z2.cells) : Array Value).size]!)) hcs (by simp [hlen])
   exact ⟨r, by rw [q1, hlen], q2, by simpa using q3⟩
 have hrcs : r = cs.toArray := by apply Array.ext'; simpa using g3
 have hr : (execOp a.eval o).run E.P w = .ok (.value (.slice (some ⟨w.heap.size, 0, none⟩) len len)) (w.alloc (.cells cs.toArray e)) := by
   have hps : (ps.map fun (x : Nat × Operand) => (x.1, a.eval x.2)).toList = ps.toList.map fun x => (x.1, a.eval x.2) := by simp
   have hdd2 : E.P.underlying t = some (.slice e) := by rw [e2, hdd]
   simp only [execOp, hop, Instr.buildSlice, Sem.run_bind, underlying, run_program, Result.andThen_ok, hdd2, Sem.run_pure, cM k1, k4, hps]
   rw [if_neg (show ¬ (len * esz > 2 ^ 24) by omega)]
   by_cases h0 : len * esz = 0
   · simp only [h0, if_true] at g2 ⊢
     simp only [Sem.run_bind, Sem.run_pure, Result.andThen_ok]
     rw [g2]
     simp [newRow, hrcs]
   · simp only [h0, if_false] at g2 ⊢
     simp only [Sem.run_bind, Sem.run_pure, Result.andThen_ok, zeroValue, typeInfo, run_program, k1, k5]
     rw [g2]
     simp [newRow, hrcs]
 have hex := Ext.alloc w (.cells cs.toArray e)
 have hown : (w.alloc (.cells cs.toArray e)).ownsRow 0 e esz (Sl.val ⟨some ⟨w.heap.size, 0, none⟩, len⟩ len) len cs := by
   refine ⟨g1, .inr ⟨w.heap.size, len, cs.toArray, rfl, Nat.zero_le _, heap_alloc_new w _, Nat.le_refl _, ?_, by simp [g1], ?_⟩⟩
   · simp only [maxLen]; omega
   · simp [← g1]
 have hnew : New w (w.alloc (.cells cs.toArray e)) [gX false ⟨some ⟨w.heap.size, 0, none⟩, len⟩ e esz cs len] := by
   refine ⟨fun f hf => ?_, List.pairwise_singleton _ _⟩
   simp only [List.mem_singleton] at hf
   subst hf
   refine ⟨hown, rfl, fun b hb => ?_⟩
   obtain ⟨ad, h1, h2⟩ := hb
   simp only [Option.some.injEq] at h1
   subst h1
   simp at h2
   subst h2
   simp
 exact ⟨hr, hex, hnew⟩
theorem vF (hti : ∀ t, aT E.P t (ti t)) {o : Oper} {next : St → Prop} {A0 A : Nat → Nat} {n0 n c : Nat} {B0 B : List (Nat × TypeId × Nat)} {Ms M : List ((Nat × Nat) × SV)} {Fs F : List Fct} {T : List (Nat × SV)} {a : Act} {w ws : World}
   (hv : jO0 E ti o Ms Fs next T n c B M F o.op) (hI : InvD E A0 n0 B0 Ms Fs A n B M F w) (hs : WD E A0 n0 B0 Ms Fs ws) (hT : TD E A T n c a w) {K : Act → World → Prop} {Q : Exit → Act → World → Prop}
   (hK : ∀ A' T' n' c' B' M' F' a' w', InvD E A0 n0 B0 Ms Fs A' n' B' M' F' w' → (∀ w2, TD E A' T' n' c' a' w2) → next (.mk T' n' c' B' M' F') → K a' w') :
   o.wp E.P a w K Q := by
 have hMlt : ∀ k o v, dP Ms k o = some v → k < n0 := fun k o v hv => by
   obtain ⟨⟨ty, sz, hk⟩, _⟩ := hs.mem k o v hv
   exact (hs.key _ _ _ hk).1
 cases hop : o.op <;> rw [hop] at hv <;> simp only [jO0] at hv
 case alloc t =>
   split at hv
   · rename_i agg sz zero fs el ik kd bytes hte
     split at hv
     · rename_i d hd
       split at hv
       · rename_i hdn
         split at hv
         · rename_i hlen
           have htt := hti t
           rw [hte] at htt
           obtain ⟨ii, dd, z, e1, e2, e3, e4, e5, e6, e7, e8, e9, e10, e11⟩ := aP htt
           rw [fV] at hv
           have hsz := Nat.eq_of_beq_eq_true hlen
           rw [dN] at hsz
           have hal := hI.hw.alloc (l := zero.map .v) (fun x hx => by obtain ⟨y, _, rfl⟩ := List.mem_map.1 hx; trivial) t
           have hcells : ((zero.map SV.v).map (SV.den A)).toArray = z.cells := by
             rw [List.map_map, show (SV.den A ∘ SV.v) = id from rfl, List.map_id, ← e6]
           rw [hcells, List.length_map, hsz] at hal
           have hr : (execOp a.eval o).run E.P w = .ok (.value (.pointer (some ⟨w.heap.size, 0, none⟩))) (w.alloc (.cells z.cells t)) := by
             simp [execOp, hop, wT e1 e5]
           refine aQ hr ?_
           rw [hd]
           refine hK (fun k => if k = n then w.heap.size else A k) _ _ _ _ _ _ _ _ ⟨fun k hk => ?_, Nat.le_succ_of_le hI.hn, fun x hx => by simp [hI.hb x hx], fun k o v hv => ?_, hI.hf, hal⟩ (fun w2 => ?_) hv
           · have := hI.hn
             simp only [if_neg (show k ≠ n by omega)]
             exact hI.ag k hk
           · have := hI.hn
             have hk := hMlt k o v hv
             rw [cZ, if_neg (by omega)]
             exact hI.hm k o v hv
           · have := (hT.alloc w.heap.size w2).put (d := d) (v := .p n 0) z78 (Nat.lt_succ_self n)
             simpa [SV.den, ptr] using this
         · exact hv.elim
       · exact hv.elim
     · exact hv.elim
   · exact hv.elim
 case load t x =>
   split at hv
   · rename_i s hsl
     split at hv
     · rename_i d hd
       split at hv
       · rename_i hdn
         obtain ⟨h1, h2⟩ := oK hti (fun k o v hv => (hI.hw.mem k o v hv).2) hT hsl o hop
         refine aQ h1 ?_
         rw [hd]
         split at hv
         · exact hv.elim
         · rename_i hne
           refine hK A _ _ _ _ _ _ _ _ ⟨hI.ag, hI.hn, hI.hb, hI.hm, hI.hf, hI.hw⟩ (fun w2 => (hT.step w2).put z78 ?_) hv
           cases s with
           | e s ad cs off => exact (hne s ad cs off rfl).elim
           | p k o => exact h2
           | f g cap => exact h2
           | _ => trivial
       · exact hv.elim
     · exact hv.elim
   · obtain ⟨hv⟩ := hv
     exact Oper.wp_weak (fun a w ⟨A', T', n', c', B', M', F', g1, g2, g3, g4, g5, h1, h2, h4⟩ => hK A' _ _ _ _ _ _ _ _ ⟨fun k hk => (g1 k (Nat.lt_of_lt_of_le hk hI.hn)).trans (hI.ag k hk), Nat.le_trans hI.hn g2, fun x hx => g3 x (hI.hb x hx), g4, g5, h1⟩ h2 h4) (hv hI.hm hI.hf A a w hI.hw hT)
 case store t x y =>
   split at hv
   · exact hv.elim
   · rename_i hd
     split at hv
     · rename_i k off hx
       split at hv
       · rename_i agg sz zero fs el ik kd bytes hte
         split at hv
         · rename_i s hs'
           split at hv
           · rename_i l hl
             split at hv
             · rename_i hlen
               split at hv
               · rename_i bsz hb
                 split at hv
                 · rename_i hle
                   split at hv
                   · rename_i hnk
                     rw [fV] at hv
                     have htt := hti t
                     rw [hte] at htt
                     obtain ⟨ii, dd, z, e1, e2, e3, e4, e5, e6, e7, e8, e9, e10, e11⟩ := aP htt
                     obtain ⟨h1, h2⟩ := aE hT hs'
                     obtain ⟨h3, h4⟩ := aE hT hx
                     obtain ⟨c1, c2, c3⟩ := iN (A := A) hl h2
                     obtain ⟨ty, hmem⟩ := pK hb
                     have hsz := Nat.eq_of_beq_eq_true hlen
                     rw [dN] at hsz
                     obtain ⟨w', hrun, hW'⟩ := hI.hw.store hmem c2 c3 (by rw [hsz]; exact Nat.le_of_ble_eq_true hle) E.P
                     have hcs : (s.den A).cells.size = ii.size := by
                       have : (s.den A).cells.toList.length = l.length := by rw [c1]; simp
                       simp at this
                       rw [this, hsz, e4]
                     have hr : (execOp a.eval o).run E.P w = .ok .skip w' := by
                       have h3' : a.eval x = .pointer (some ⟨A k, off, none⟩) := h3
                       simp only [execOp, hop, Instr.storeAt, h1, h3', Instr.sureAddr, Sem.run_bind, Sem.run_pure, Result.andThen_ok, storeVar, cM e1]
                       rw [if_neg (by simp [hcs]), c1]
                       simp only [Result.andThen_ok, hrun]
                     refine gM hr ?_
                     rw [hd]
                     refine hK A _ _ _ _ _ _ _ _ ⟨hI.ag, hI.hn, hI.hb, fun k' o' v hv => ?_, hI.hf, hW'⟩ (fun w2 => hT.step w2) hv
                     rw [cZ, if_neg (by rw [hsz]; exact oT hnk k' o' v hv)]
                     exact hI.hm k' o' v hv
                   · exact hv.elim
                 · exact hv.elim
               · exact hv.elim
             · exact hv.elim
           · exact hv.elim
         · exact hv.elim
       · exact hv.elim
     · obtain ⟨hv⟩ := hv
       exact Oper.wp_weak (fun a w ⟨A', T', n', c', B', M', F', g1, g2, g3, g4, g5, h1, h2, h4⟩ => hK A' _ _ _ _ _ _ _ _ ⟨fun k hk => (g1 k (Nat.lt_of_lt_of_le hk hI.hn)).trans (hI.ag k hk), Nat.le_trans hI.hn g2, fun x hx => g3 x (hI.hb x hx), g4, g5, h1⟩ h2 h4) (hv hI.hm hI.hf A a w hI.hw hT)
 case buildSlice t len ps =>
   split at hv
   · rename_i e ik kd bytes hte
     split at hv
     · rename_i agg2 esz zero2 fs2 el2 ik2 kd2 bytes2 hte2
       split at hv
       · rename_i d hd
         split at hv
         · rename_i hdn
           split at hv
           · rename_i hplen
             split at hv
             · rename_i h24
               split at hv
               · rename_i cs hcs
                 obtain ⟨hv⟩ := hv
                 obtain ⟨hr, hex, hnew⟩ := oU hti hT hop hte hte2 hplen h24 hcs
                 refine aQ hr ?_
                 rw [hd]
                 exact hK A _ _ _ _ _ _ _ _ ⟨hI.ag, hI.hn, hI.hb, hI.hm, fun f hf => List.mem_cons_of_mem _ (hI.hf f hf), hI.hw.learn hex hnew⟩ (fun w2 => (hT.step w2).put (d := d) (v := .v (Sl.val ⟨some ⟨w.heap.size, 0, none⟩, len⟩ len)) z78 trivial) (hv ⟨some ⟨w.heap.size, 0, none⟩, len⟩)
               · exact hv.elim
             · exact hv.elim
           · exact hv.elim
         · exact hv.elim
       · exact hv.elim
     · exact hv.elim
   · exact hv.elim
 all_goals
   obtain ⟨hv⟩ := hv
   exact Oper.wp_weak (fun a w ⟨A', T', n', c', B', M', F', g1, g2, g3, g4, g5, h1, h2, h4⟩ => hK A' _ _ _ _ _ _ _ _ ⟨fun k hk => (g1 k (Nat.lt_of_lt_of_le hk hI.hn)).trans (hI.ag k hk), Nat.le_trans hI.hn g2, fun x hx => g3 x (hI.hb x hx), g4, g5, h1⟩ h2 h4) (hv hI.hm hI.hf A a w hI.hw hT)
def unl : List Bool → Nat
 | [] => 0
 | true :: r => unl r
 | false :: r => unl r + 1
theorem dN0 : ∀ {l : List Bool} {i : Nat}, l[i]? = some false → unl (l.set i true) + 1 = unl l
 | [], i, h => by simp at h
 | b :: r, 0, h => by simp at h; subst h; simp [unl]
 | b :: r, i + 1, h => by
   simp at h
   have := dN0 h
   cases b <;> simp [unl] <;> omega
theorem wX {md : Region.Mode} {ops : Array Oper} {L : Array Bool} {i : Nat} (h : i ∈ Region.ready md ops L) : unl (L.setIfInBounds i true).toList + 1 = unl L.toList := by
 have h0 := (mem_ready.1 h).1
 have h1 : L.toList[i]? = some false := by
   rw [Array.getD_eq_getD_getElem?] at h0
   rw [Array.getElem?_toList]
   cases hx : L[i]? with
   | none => rw [hx] at h0; simp at h0
   | some b => rw [hx] at h0; simp at h0; rw [h0]
 rw [Array.toList_setIfInBounds]
 exact dN0 h1
theorem jC {A : Nat → Nat} {T : List (Nat × SV)} {n c : Nat} {a : Act} {w : World} (h : TD E A T n c a w) {ops : List Oper} {g : Option (Nat × Bool)} (hg : eG ops T g = .go) (o : Oper) (ho : o.guard = g) : Region.wanted o (yielded ops.toArray a.tmps) = true := by
 unfold eG at hg
 split at hg
 · simp [Region.wanted, ho]
 · rename_i j iV
   split at hg
   · rename_i t b hgv
     have hy := (kY h hgv (b := b) rfl).1
     split at hg <;> first | (cases hg; done) | simp [Region.wanted, ho, hy]
   · cases hg
   · cases hg
   · cases hg
theorem vG {A : Nat → Nat} {T : List (Nat × SV)} {n c : Nat} {a : Act} {w : World} (h : TD E A T n c a w) {ops : List Oper} {g : Option (Nat × Bool)} (hg : eG ops T g = .no) (o : Oper) (ho : o.guard = g) : Region.wanted o (yielded ops.toArray a.tmps) = false := by
 unfold eG at hg
 split at hg
 · cases hg
 · rename_i j iV
   split at hg
   · rename_i t b hgv
     have hy := (kY h hgv (b := b) rfl).1
     split at hg <;> first | (cases hg; done) | simp [Region.wanted, ho, hy]
   · cases hg
   · rename_i t xs hgv
     have hy := wU h hgv (xs := xs) rfl
     simp [Region.wanted, ho, hy]
   · cases hg
theorem tO {A : Nat → Nat} {T : List (Nat × SV)} {n c : Nat} {a : Act} {w : World} (h : TD E A T n c a w) {ops : List Oper} {g : Option (Nat × Bool)} {t : Nat} {b : Bool} (hg : eG ops T g = .unk t b) : oH T t = some (.v (.bool b)) := by
 unfold eG at hg
 split at hg
 · cases hg
 · rename_i j iV
   split at hg
   · split at hg <;> cases hg
   · rename_i hgv
     have := (kY h hgv (b := _) rfl).2
     cases hg
     exact this
   · cases hg
   · cases hg
theorem sQ {ti : Nat → TI} {ops : List Oper} {T : List (Nat × SV)} {c : Nat} {Ms : List ((Nat × Nat) × SV)} : ∀ (rs : List Nat),
   (∀ i d s, eN ti ops T c Ms rs = .pure i d s → i ∈ rs ∧ ∃ o, ops[i]? = some o ∧ eG ops T o.guard = .go ∧ uU ti T c Ms o.op = some s ∧ o.dst = d) ∧
   (∀ i d, eN ti ops T c Ms rs = .skip i d → i ∈ rs ∧ ∃ o, ops[i]? = some o ∧ eG ops T o.guard = .no ∧ o.dst = d) ∧
   (∀ t b, eN ti ops T c Ms rs = .split t b → ∃ o : Oper, eG ops T o.guard = .unk t b) ∧
   (∀ i o, eN ti ops T c Ms rs = .idx i o → i ∈ rs ∧ ops[i]? = some o ∧ eG ops T o.guard = .go)
 | [] => ⟨fun _ _ _ h => z89, fun _ _ h => z89, fun _ _ h => z89, fun _ _ h => z89⟩
 | i :: r => by
   have ih := sQ (ti := ti) (ops := ops) (T := T) (c := c) (Ms := Ms) r
   have up : (∀ j d s, eN ti ops T c Ms r = .pure j d s → j ∈ i :: r ∧ ∃ o, ops[j]? = some o ∧ eG ops T o.guard = .go ∧ uU ti T c Ms o.op = some s ∧ o.dst = d) ∧
       (∀ j d, eN ti ops T c Ms r = .skip j d → j ∈ i :: r ∧ ∃ o, ops[j]? = some o ∧ eG ops T o.guard = .no ∧ o.dst = d) ∧
       (∀ t b, eN ti ops T c Ms r = .split t b → ∃ o : Oper, eG ops T o.guard = .unk t b) ∧
       (∀ j o, eN ti ops T c Ms r = .idx j o → j ∈ i :: r ∧ ops[j]? = some o ∧ eG ops T o.guard = .go) :=
     ⟨fun j d s h => ⟨List.mem_cons_of_mem _ (ih.1 j d s h).1, (ih.1 j d s h).2⟩, fun j d h => ⟨List.mem_cons_of_mem _ (ih.2.1 j d h).1, (ih.2.1 j d h).2⟩, ih.2.2.1, fun j o h => ⟨List.mem_cons_of_mem _ (ih.2.2.2 j o h).1, (ih.2.2.2 j o h).2⟩⟩
   simp only [eN]
   cases ho : nth ops i with
   | none => exact up
   | some o =>
     rw [mE] at ho
     dsimp only
     cases hg : eG ops T o.guard with
     | go =>
       dsimp only
       cases hp : uU ti T c Ms o.op with
       | some s =>
         dsimp only
         refine ⟨fun j d s' h => ?_, fun _ _ h => z89, fun _ _ h => z89, fun _ _ h => z89⟩
         cases h
         exact ⟨by simp, o, ho, hg, hp, rfl⟩
       | none =>
         dsimp only
         cases hi : lB0 o.op with
         | true =>
           dsimp only
           refine ⟨fun _ _ _ h => z89, fun _ _ h => z89, fun _ _ h => z89, fun j o' h => ?_⟩
           cases h
           exact ⟨by simp, ho, hg⟩
         | false => dsimp only; exact up
     | no =>
       dsimp only
       refine ⟨fun _ _ _ h => z89, fun j d h => ?_, fun _ _ h => z89, fun _ _ h => z89⟩
       cases h
       exact ⟨by simp, o, ho, hg, rfl⟩
     | unk t b =>
       dsimp only
       refine ⟨fun _ _ _ h => z89, fun _ _ h => z89, fun t' b' h => ?_, fun _ _ h => z89⟩
       cases h
       exact ⟨o, hg⟩
     | bad => dsimp only; exact up
theorem gO (hti : ∀ t, aT E.P t (ti t)) {ops : List Oper} {A0 : Nat → Nat} {n0 : Nat} {B0 : List (Nat × TypeId × Nat)} {Ms : List ((Nat × Nat) × SV)} {Fs : List Fct} {K : St → Prop} {ws : World} (hs : WD E A0 n0 B0 Ms Fs ws) (hns : Region.noSelect ops.toArray = true) (hap : mU ops.toArray = true) :
   ∀ (f : Nat) (L : List Bool) (T : List (Nat × SV)) (n c : Nat) (B : List (Nat × TypeId × Nat)) (M : List ((Nat × Nat) × SV)) (F : List Fct) (A : Nat → Nat) (a : Act) (w : World) (k : Nat),
     vcD E ti ops n0 B0 Ms Fs K f L (.mk T n c B M F) → InvD E A0 n0 B0 Ms Fs A n B M F w → (∀ w2, WD E A0 n0 B0 Ms Fs w2 → TD E A T n c a w2) → unl L ≤ k →
     wpAnyH E.P .any ops.toArray (lN E K) (fun w => WD E A0 n0 B0 Ms Fs w) k L.toArray a w
 | 0, _, _, _, _, _, _, _, _, _, _, _, hv, _, _, _ => (hv : False).elim
 | f + 1, L, T, n, c, B, M, F, A, a, w, k, hv, hI, hT, hk => by
   have hS := hI.start hs
   have hTw := hT w hS
   have hloc : ∀ w2, WD E A0 n0 B0 Ms Fs w2 → WD E A n0 B0 Ms Fs w2 := fun w2 h => h.agree (fun k hk => (hI.ag k hk).symm)
   have hQ : ∀ (c : List PanicEntry) (a1 a2 : Act) (w : World), lN E K (.panic c) a1 w → lN E K (.panic c) a2 w := fun _ _ _ _ h => h
   have hset : ∀ i, L.toArray.setIfInBounds i true = (mG L i).toArray := fun i => by rw [yI]; simp
   have hunl : ∀ i, i ∈ fM L 0 ops L → unl (mG L i) + 1 = unl L := fun i hi => by
     have := wX (dA.1 hi)
     rw [hset] at this
     simpa using this
   obtain ⟨p1, p2, p3, p4⟩ := sQ (ti := ti) (ops := ops) (T := T) (c := c) (Ms := Ms) (fM L 0 ops L)
   simp only [vcD] at hv
   split at hv
   · rename_i i d s hp
     obtain ⟨hmem, o, ho, hg, hpv, hod⟩ := p1 i d s hp
     have hu := hunl i hmem
     have hmem' := dA.1 hmem
     obtain ⟨k', rfl⟩ : ∃ k', k = k' + 1 := ⟨k - 1, by omega⟩
     have hval : ∀ w2, WD E A0 n0 B0 Ms Fs w2 → OKV E A n c w2 ((execOp a.eval o).run E.P w2) s := fun w2 h2 =>
       oM hti (fun k o v hv => by
         obtain ⟨_, g1, g2⟩ := (hloc w2 h2).mem k o v hv
         exact ⟨g1, SV.small_more g2 hI.hn⟩) (hT w2 h2) hpv
     have hy : YieldsIf E.P ops.toArray (fun w => WD E A0 n0 B0 Ms Fs w) o (s.den A) a := .inl ⟨jC hTw hg o rfl, fun w2 h2 => (hval w2 h2).1⟩
     refine wpAnyH_take z81 hns (fX hap hmem') z77 (fun c a w h => h) hy hS ?_
     rw [hset]
     split at hv
     · rename_i d
       split at hv
       · rename_i hdn
         rw [hod]
         exact gO hti hs hns hap f _ _ n c B M F A _ w k' hv hI (fun w2 h2 => (hT w2 h2).put z78 (hval w2 h2).2) (by omega)
       · exact hv.elim
     · rw [hod]
       exact gO hti hs hns hap f _ _ n c B M F A _ w k' hv hI hT (by omega)
   · rename_i i d hp
     obtain ⟨hmem, o, ho, hg, hod⟩ := p2 i d hp
     have hu := hunl i hmem
     have hmem' := dA.1 hmem
     obtain ⟨k', rfl⟩ : ∃ k', k = k' + 1 := ⟨k - 1, by omega⟩
     have hy : YieldsIf E.P ops.toArray (fun w => WD E A0 n0 B0 Ms Fs w) o undef a := .inr ⟨vG hTw hg o rfl, rfl⟩
     refine wpAnyH_take z81 hns (fX hap hmem') z77 (fun c a w h => h) hy hS ?_
     rw [hset]
     split at hv
     · rename_i d
       split at hv
       · rename_i hdn
         rw [hod]
         exact gO hti hs hns hap f _ _ n c B M F A _ w k' hv hI (fun w2 h2 => (hT w2 h2).put (v := .v undef) z78 trivial) (by omega)
       · exact hv.elim
     · rw [hod]
       exact gO hti hs hns hap f _ _ n c B M F A _ w k' hv hI hT (by omega)
   · rename_i t b hp
     obtain ⟨o, hg⟩ := p3 t b hp
     have hl := tO hTw hg
     cases b with
     | true => exact gO hti hs hns hap f _ _ n c B M F A _ w k (hv.t rfl) hI (fun w2 h2 => (hT w2 h2).lit hl) hk
     | false => exact gO hti hs hns hap f _ _ n c B M F A _ w k (hv.f rfl) hI (fun w2 h2 => (hT w2 h2).lit hl) hk
   · rename_i i o hp
     obtain ⟨hmem, ho, hg⟩ := p4 i o hp
     have hu := hunl i hmem
     have hmem' := dA.1 hmem
     obtain ⟨k', rfl⟩ : ∃ k', k = k' + 1 := ⟨k - 1, by omega⟩
     obtain ⟨s, h1, d, hd, hv⟩ := hv.out A
     have hy : YieldsIf E.P ops.toArray (fun w => WD E A0 n0 B0 Ms Fs w) o (s.den A) a := .inl ⟨jC hTw hg o rfl, fun w2 h2 => (h1 a w2 (hloc w2 h2) (hT w2 h2)).1⟩
     refine wpAnyH_take z81 hns (fX hap hmem') z77 (fun c a w h => h) hy hS ?_
     rw [hd.1, hset]
     exact gO hti hs hns hap f _ _ n c B M F A _ w k' hv hI (fun w2 h2 => (hT w2 h2).put hd.lt (h1 a w2 (hloc w2 h2) (hT w2 h2)).2) (by omega)
   · split at hv
     · rename_i hr
       refine wpAnyH_done (List.eq_nil_iff_forall_not_mem.2 fun i hi => ?_) ⟨_, ⟨A, hI.hw, hTw⟩, hv⟩ k
       rw [← dA, hr] at hi
       cases hi
     · rename_i i0 r hr
       have hmem0 : i0 ∈ fM L 0 ops L := by rw [hr]; simp
       have hu := hunl i0 hmem0
       obtain ⟨k', rfl⟩ : ∃ k', k = k' + 1 := ⟨k - 1, by omega⟩
       refine wpAnyH_all rfl (fun e => by have := dA.1 hmem0; rw [e] at this; cases this) fun i hi => ?_
       have hmem := dA.2 hi
       have hvi := vE hv i (by rw [← hr]; exact hmem)
       have hui := hunl i hmem
       cases ho : nth ops i with
       | none => rw [ho] at hvi; exact hvi.elim
       | some o =>
         rw [ho] at hvi
         simp only at hvi
         rw [mE] at ho
         split at hvi
         · rename_i hg
           unfold wpOp
           simp only [show ops.toArray[i]? = some o by simpa using ho, jC hTw hg o rfl, if_true]
           refine .inl (vF hti hvi hI hs hTw ?_)
           intro A' T' n' c' B' M' F' a' w' hI' hT' hn
           rw [hset]
           exact ⟨hI'.start hs, gO hti hs hns hap f _ _ n' c' B' M' F' A' a' w' k' hn hI' (fun w2 _ => hT' w2) (by omega)⟩
         · exact hvi.elim
def FK (F : List Fct) : List Nat → List Fct → Prop
 | [], [] => True
 | i :: ix, f :: r => F[i]? = some f ∧ FK F ix r
 | _, _ => False
theorem FK.fw {F : List Fct} : ∀ {ix : List Nat} {Fs : List Fct}, FK F ix Fs → FW F ix Fs
 | [], [], _ => trivial
 | [], _ :: _, h => h.elim
 | _ :: _, [], h => h.elim
 | _ :: _, _ :: _, h => ⟨.inl ⟨_, h.1, rfl⟩, FK.fw h.2⟩
theorem FK.keep {F : List Fct} : ∀ {ix : List Nat} {Fs : List Fct}, FK F ix Fs → iP Fs F
 | [], [], _ => fun f hf => by cases hf
 | [], _ :: _, h => h.elim
 | _ :: _, [], h => h.elim
 | _ :: _, _ :: _, h => fun f hf => by
   rcases List.mem_cons.1 hf with rfl | hf
   · exact List.mem_of_getElem? h.1
   · exact FK.keep h.2 f hf
theorem mH : ∀ n : Nat, unl (List.replicate n false) = n
 | 0 => rfl
 | n + 1 => by simp [List.replicate_succ, unl, mH n]
theorem aH {id : Nat} {ops : Array Oper} {T : List (Nat × SV)} {n c : Nat} {B : List (Nat × TypeId × Nat)} {M : List ((Nat × Nat) × SV)} {F : List Fct} {K : St → Prop} (hti : ∀ t, aT E.P t (ti t)) (hm : E.P.follows .mixedOrders = true) (hns : Region.noSelect ops = true) (hap : mU ops = true)
   (fuel : Nat) (Ms : List ((Nat × Nat) × SV)) (ix : List Nat) (Fs : List Fct) (hM : MW M n Ms) (hMB : MBW B Ms) (hF : FK F ix Fs) (hix : hJ ix = true)
   (hv : vcD E ti ops.toList n B Ms Fs K fuel (qK ops.toList) (.mk T n (c + 1) B M F)) :
   DrawW (∀ a w, Den E (.mk T n c B M F) a w → (Code.region id ops true).wp E.P (lN E K) a w) := by
 refine ⟨fun a w hd => ?_⟩
 obtain ⟨A, hW, hT⟩ := hd
 have hdr : Ext w { w with drawn := w.drawn + 1 } := ⟨rfl, rfl, rfl, Nat.le_refl _, fun _ _ _ => rfl⟩
 have hW' := hW.growExt hdr
 have hs : WD E A n B Ms Fs { w with drawn := w.drawn + 1 } := by
   have hp := hW'.pick ix hF.fw hix
   refine ⟨hp.key, hp.inj, fun k o v hv => ?_, hp.a0, hp.n0, hp.ext, hp.fct, hp.dj⟩
   obtain ⟨h1, h2⟩ := vB hM k o v hv
   exact ⟨uJ hMB k o v hv, (hp.mem k o v h1).2.1, h2⟩
 refine wp_region_held (S := fun w => WD E A n B Ms Fs w) hm ?_
 have := gO hti (ops := ops.toList) (K := K) hs (by simpa using hns) (by simpa using hap) fuel (qK ops.toList) T n (c + 1) B M F A a { w with drawn := w.drawn + 1 } ops.size hv
   ⟨fun _ _ => rfl, Nat.le_refl _, fun _ h => h, fun k o v hv => (vB hM k o v hv).1, hF.keep, hW'⟩ (fun w2 _ => hT.step w2) (by simp [mV, mH])
 rw [Array.toArray_toList, mV] at this
 simp only [Array.length_toList, List.toArray_replicate] at this
 exact this
theorem mW {id : Nat} {ops : Array Oper} {s : St} {K : St → Prop} (Y : Type) (S : Y → St)
   (h1 : DrawW (∀ a w, Den E s a w → (Code.region id ops true).wp E.P (lN E (fun s' => ∃ y, Weak E s' (S y))) a w)) (h2 : ∀ y, K (S y)) :
   DrawW (∀ a w, Den E s a w → (Code.region id ops true).wp E.P (lN E K) a w) := by
 refine ⟨fun a w hd => Code.wp_mono (fun e a w h => ?_) (h1.out a w hd)⟩
 cases e with
 | normal =>
   obtain ⟨s', hs, y, hw⟩ := h
   exact ⟨S y, hw _ _ hs, h2 y⟩
 | _ => exact h
end
section
variable {E : Env} {ti : Nat → TI} {A : Nat → Nat} {T : List (Nat × SV)} {n c : Nat} {B : List (Nat × TypeId × Nat)} {M Ms : List ((Nat × Nat) × SV)} {F Fs : List Fct} {o : Oper} {next : St → Prop}
theorem pM {k : Call} (_hop : o.op = .call k) (_hk : k.callee = .builtin .append) (h : OpW (opD E o Ms Fs next T n c B M F)) : OpW (opD E o Ms Fs next T n c B M F) := h
theorem bV (R : Value → List Fct → Prop) {k : Call} {fo : Operand} {g : FuncId} {cap : List (Nat × Nat)} {l : List SV} {d : Nat} (hc : aD E.P g = true)
   (hop : o.op = .call k) (hk : k.callee = .value fo) (hf : aY T fo = some (.f g cap)) (ha : iK T k.args.toList = some l) (hd : Dst E o d)
   (hcall : ∀ A w, WD E A n B M F w → Calls E.P g ((l.map (SV.den A)) ++ cap.map (fun x => ptr A x.1 x.2)).toArray w (Ret w R))
   (hnext : ∀ v L, R v L → next (.mk ((d, .v v) :: T) n (c + 1) B M (L ++ F))) :
   OpW (opD E o Ms Fs next T n c B M F) := by
 refine ⟨opD0.up fun hkf A a w hW hT => ?_⟩
 have hargs : (k.args.map a.eval).toList = l.map (SV.den A) := by rw [Array.toList_map]; exact iL hT ha
 have hfv := (aE hT hf).1
 have hr : (execOp a.eval o).run E.P w = .ok (.enter g ((l.map (SV.den A)) ++ cap.map (fun x => ptr A x.1 x.2)).toArray) w := by
   have hcat : (k.args.map a.eval) ++ (cap.map (fun x => ptr A x.1 x.2)).toArray = ((l.map (SV.den A)) ++ cap.map (fun x => ptr A x.1 x.2)).toArray := by
     apply Array.ext'; rw [Array.toList_append, hargs]
   simp only [execOp, hop, resolve, hk, Sem.run_bind, hfv, SV.den, Deferred.ofValue, Sem.run_pure, Result.andThen_ok, Array.empty_append, invoke, hcat, kG hc]
 unfold Oper.wp
 rw [hr, Oper.upon_enter]
 refine (hcall A w hW).mono ?_
 rintro e w' ⟨v, L, rfl, he, hL, hR⟩
 refine ⟨_, _, _, hW.learn he hL, fun w2 => ?_, fun f hf => List.mem_append_right _ (hkf f hf), hnext v L hR⟩
 rw [hd.1]
 exact (hT.step w2).put (v := .v v) hd.lt trivial
theorem dB {α : Type} {enc : α → List Value} {sz : Nat} (he : Enc enc sz) (k1 : Nat) {xs ys : List α} {i j : Sl} {k : Call} {t e : TypeId} {x y : Operand} {d : Nat} {agg : Bool} {size : Nat} {zero : List Value} {fs : List (Nat × Nat × Bool)} {ik : Option IntKind} {kk bytes : Nat} {agg2 : Bool} {zero2 : List Value} {fs2 : List (Nat × Nat × Bool)} {el2 : Option TypeId} {ik2 : Option IntKind} {kk2 bytes2 : Nat}
   (hti : ∀ t, aT E.P t (ti t)) (hop : o.op = .call k) (hk : k.callee = .builtin .append) (ha : k.args.toList = [x, y]) (hty : k.argTypes.toList = [t, t])
   (hx : aY T x = some (.v (i.val xs.length))) (hy : aY T y = some (.v (j.val ys.length)))
   (ht : ti t = .mk agg size zero fs (some e) ik kk bytes) (hte : ti e = .mk agg2 sz zero2 fs2 el2 ik2 kk2 bytes2) (hz2 : dO zero2 = sz) (hsz0 : 0 < sz) (hd : Dst E o d)
   (hF1 : F[k1]? = some (own i e enc sz xs)) (hF2 : ∀ w, (∀ f ∈ F, f.P w) → RdS w j sz (cells enc ys) ys.length)
   (hb : (xs.length + ys.length) * bytes2 ≤ 140737488355328) (hm : xs.length + ys.length ≤ maxLen)
   (hkeep : iP Fs F → iP Fs (F.eraseIdx k1)) (hnext : ∀ y : Sl, next (.mk ((d, .v (y.val (xs ++ ys).length)) :: T) n (c + 1) B M (own y e enc sz (xs ++ ys) :: F.eraseIdx k1))) :
   OpW (opD E o Ms Fs next T n c B M F) := by
 refine ⟨opD0.up fun hkf A a w hW hT => ?_⟩
 have htt := hti t
 rw [ht] at htt
 obtain ⟨ii, dd, z, e1, e2, e3, e4, e5, e6, e7, e8, e9, e10, e11⟩ := aP htt
 have htt2 := hti e
 rw [hte] at htt2
 obtain ⟨ii2, dd2, z2, g1, g2, g3, g4, g5, g6, g7, g8, g9, g10, g11⟩ := aP htt2
 have hdd := fT e8
 have hown := (hW.nth k1 hF1).1
 have hrd := hF2 w (fun f hf => (hW.fct f hf).1)
 have hz : z2.cells.size = sz := by rw [← hz2, dN, ← g6]; simp
 obtain ⟨y', w', h1, h2, h3, h4⟩ := dB0 (P := E.P) w o.type (by rw [e2, hdd]) g1 g5 g4 hz hsz0 hown hrd (wV he ys) (by rw [g11]; exact hb) hm
 have hr : (execOp a.eval o).run E.P w = .ok (.value (y'.val (xs.length + ys.length))) w' := by
   have hargs : k.args = #[x, y] := by apply Array.ext'; simpa using ha
   have htys : k.argTypes = #[t, t] := by apply Array.ext'; simpa using hty
   have hx' : a.eval x = i.val xs.length := (aE hT hx).1
   have hy' : a.eval y = j.val ys.length := (aE hT hy).1
   simp only [execOp, hop, resolve, hk, hargs, htys, Sem.run_bind, Sem.run_pure, Result.andThen_ok, invoke, builtin, List.map_toArray, List.map_cons, List.map_nil, hx', hy', h1]
 refine aQ hr ?_
 rw [hd.1]
 have hn := hnext y'
 rw [List.length_append] at hn
 refine ⟨_, _, _, ?_, fun w2 => (hT.step w2).put (v := .v (y'.val (xs.length + ys.length))) hd.lt trivial, fun f hf => List.mem_cons_of_mem _ (hkeep hkf f hf), hn⟩
 have := hW.turn hF1 h3 (ds := cells enc xs ++ cells enc ys) h2 h4
 rw [← kI] at this
 show WD E A n B M (gX false y' e sz (cells enc (xs ++ ys)) (xs ++ ys).length :: F.eraseIdx k1) w'
 rw [List.length_append]
 exact this
theorem oV {α : Type} {enc : α → List Value} {sz : Nat} (he : Enc enc sz) {k1 : Nat} {xs ys : List α} {i j : Sl} {k : Call} {t e : TypeId} {x y : Operand} {d : Nat} {agg : Bool} {size : Nat} {zero : List Value} {fs : List (Nat × Nat × Bool)} {ik : Option IntKind} {kk bytes : Nat} {agg2 : Bool} {zero2 : List Value} {fs2 : List (Nat × Nat × Bool)} {el2 : Option TypeId} {ik2 : Option IntKind} {kk2 bytes2 : Nat}
   (hti : ∀ t, aT E.P t (ti t)) (hop : o.op = .call k) (hk : k.callee = .builtin .append) (ha : k.args.toList = [x, y]) (hty : k.argTypes.toList = [t, t])
   (hx : aY T x = some (.v (i.val xs.length))) (hy : aY T y = some (.v (j.val ys.length)))
   (ht : ti t = .mk agg size zero fs (some e) ik kk bytes) (hte : ti e = .mk agg2 sz zero2 fs2 el2 ik2 kk2 bytes2) (hz2 : dO zero2 = sz) (hsz0 : 0 < sz) (hd : Dst E o d)
   (hF1 : IsAt F k1 (own i e enc sz xs)) (hF2 : ∀ w, (∀ f ∈ F, f.P w) → RdS w j sz (cells enc ys) ys.length)
   (hb : (xs.length + ys.length) * bytes2 ≤ 140737488355328) (hm : xs.length + ys.length ≤ maxLen)
   (hkeep : iP Fs F → iP Fs (F.eraseIdx k1)) (hnext : ∀ y : Sl, next (.mk ((d, .v (y.val (xs ++ ys).length)) :: T) n (c + 1) B M (own y e enc sz (xs ++ ys) :: F.eraseIdx k1))) :
   OpW (opD E o Ms Fs next T n c B M F) :=
 dB he k1 hti hop hk ha hty hx hy ht hte hz2 hsz0 hd hF1.h hF2 hb hm hkeep hnext
theorem bM {α : Type} {enc : α → List Value} {sz : Nat} (he : Enc enc sz) {t e : TypeId} {x ix : Operand} {i : Sl} {xs : List α} {kd : IntKind} {m : Int} {d : Nat} {agg : Bool} {size : Nat} {zero : List Value} {fs : List (Nat × Nat × Bool)} {ik : Option IntKind} {kk bytes : Nat} {agg2 : Bool} {zero2 : List Value} {fs2 : List (Nat × Nat × Bool)} {el2 : Option TypeId} {ik2 : Option IntKind} {kk2 bytes2 : Nat}
   (hti : ∀ t, aT E.P t (ti t)) (hop : o.op = .indexAddr t x ix) (hx : aY T x = some (.v (i.val xs.length))) (hix : aY T ix = some (.v (.int kd m)))
   (ht : ti t = .mk agg size zero fs (some e) ik kk bytes) (hte : ti e = .mk agg2 sz zero2 fs2 el2 ik2 kk2 bytes2) (hd : Dst E o d)
   (hF : ∀ w, (∀ f ∈ Fs, f.P w) → RdS w i sz (cells enc xs) xs.length) (j : Nat) (hj : m = (j : Int)) (hlt : j < xs.length) {n0 : Nat} {B0 : List (Nat × TypeId × Nat)}
   (hnext : ∀ ad : Addr, next (.mk ((d, .e c ad (enc xs[j]) 0) :: T) n c B M F)) :
   OpW (∀ A, ∃ s : SV, (∀ a w, WD E A n0 B0 Ms Fs w → TD E A T n c a w → (execOp a.eval o).run E.P w = .ok (.value (s.den A)) w ∧ s.okT n c w) ∧ (∃ d, Dst E o d ∧ next (.mk ((d, s) :: T) n c B M F))) := by
 refine ⟨fun A => ?_⟩
 by_cases hex : ∃ ad, i.a = some ad
 · obtain ⟨ad, had⟩ := hex
   refine ⟨.e c (ad.add (j * sz)) (enc xs[j]) 0, fun a w hW hT => ?_, d, hd, hnext _⟩
   obtain ⟨h1, h2, h3, h4⟩ := hF w (fun f hf => (hW.fct f hf).1)
   obtain ⟨ad', had', hcs⟩ := h4 (by omega)
   rw [had] at had'
   injection had' with had'
   subst had'
   have htt := hti t
   rw [ht] at htt
   obtain ⟨ii, dd, z, e1, e2, e3, e4, e5, e6, e7, e8, e9, e10, e11⟩ := aP htt
   have htt2 := hti e
   rw [hte] at htt2
   obtain ⟨ii2, dd2, z2, k1, k2, k3, k4, k5, k6, k7, k8, k9, k10, k11⟩ := aP htt2
   have hdd := fT e8
   subst hj
   refine ⟨?_, Nat.le_refl _, fun _ q u hu => by
     rw [gL]
     exact hcs _ u (oQ he hlt hu)⟩
   have hx' : a.eval x = .slice (some ad) xs.length i.c := by rw [(aE hT hx).1]; simp [SV.den, Sl.val, had]
   have hix' : a.eval ix = .int kd j := (aE hT hix).1
   simp [execOp, hop, Instr.indexAt, hx', hix', asIntOf, underlying, e2, hdd, cM k1, k4, hlt, SV.den]
   simp [Addr.add]
 · refine ⟨.e c ⟨0, 0, none⟩ (enc xs[j]) 0, fun a w hW hT => ?_, d, hd, hnext _⟩
   obtain ⟨h1, h2, h3, h4⟩ := hF w (fun f hf => (hW.fct f hf).1)
   obtain ⟨ad', had', hcs⟩ := h4 (by omega)
   exact absurd ⟨ad', had'⟩ hex
end
end Go.Sx
namespace Go.Proofs.YtchkcjeeknfchaaGreatDoor
set_option maxRecDepth 100000
set_option maxHeartbeats 100000000
open Go Go.Sx Go.RowKit
def aW (t : Int) : Bool := decide (0 ≤ t) && decide (t < 6)
def aR (t : Int) : Bool := decide (0 ≤ t) && decide (t ≤ 99)
structure Letter where
 t : Int
 v : Int
 deriving DecidableEq
def jY (l : Letter) : List Value := [.int .i64 l.t, .int .i64 l.v]
theorem jZ : Enc jY 2 := ⟨fun _ => rfl, fun _ u hu => by simp [jY] at hu; rcases hu with rfl | rfl <;> rfl⟩
structure Chan where
 room : Int
 items : List Int
 senders : List Letter
 getters : List Int
 closed : Bool
 deriving DecidableEq
def kZ (m : Chan) (i s g : Sl) : Value := .agg #[.int .i64 m.room, i.val m.items.length, s.val m.senders.length, g.val m.getters.length, .bool m.closed]
def Chan.small (m : Chan) : Prop := m.items.length ≤ 4294967296 ∧ m.senders.length ≤ 4294967296 ∧ m.getters.length ≤ 4294967296
def Chan.threads (m : Chan) : List Int := m.senders.map (·.t) ++ m.getters
theorem qL (t : Int) (w : World) : Calls Tryz.prog 87 #[.int .i64 t] w (Ret w fun v L => v = .bool (aW t) ∧ L = []) := by
 refine bU Tryz.func87 rfl aA w _ rfl _ rfl [] trivial trivial _ (by decide) ?_
 refine CaseB.mk (fun h => ?_) (fun h => ?_)
 all_goals
   refine aG ⟨?_, rfl⟩ (fun _ => rfl)
   simp [aW] at h ⊢
   omega
theorem iC (t : Int) (w : World) : Calls Tryz.prog 47 #[.int .i64 t] w (Ret w fun v L => v = .bool (aR t) ∧ L = []) := by
 refine bU Tryz.func47 rfl aA w _ rfl _ rfl [] trivial trivial _ (by decide) ?_
 refine CaseB.mk (fun h => ?_) (fun h => ?_)
 all_goals
   refine aG ⟨?_, rfl⟩ (fun _ => rfl)
   simp [aR] at h ⊢
   omega
theorem oD (k n : Nat) (h : k < n) (hn : n ≤ 4294967296) : IntKind.i64.wrap ((k : Int) + 1) = ((k + 1 : Nat) : Int) := by
 rw [IntKind.wrap_i64]; omega
theorem eH0 (m : Chan) (i s g : Sl) (w : World) (h : At w [slo i aL 1 m.items, slo s jY 2 m.senders, slo g aL 1 m.getters]) (hb : m.small) :
   Calls Tryz.prog 86 #[kZ m i s g] w (Ret w fun v L => ∃ y : Sl, v = y.val m.threads.length ∧ L = [own y 3 aL 1 m.threads]) := by
 obtain ⟨b1, b2, b3⟩ := hb
 refine bU Tryz.func86 rfl aA w _ rfl _ rfl _ h z112 _ (by decide) ?_
 refine LoopW.mk ⟨{ p : Nat × Sl // p.1 ≤ m.senders.length },
   fun p => .mk [(1, .p 0 0), (3, .v (p.1.2.val ((m.senders.take p.1.1).map Letter.t).length)), (7, .v (s.val m.senders.length)), (8, .v (.int .i64 m.senders.length)), (9, .v (.int .i64 p.1.1))] 1 0 [(0, 95, 5)] [((0, 3), .v (g.val m.getters.length))] [own p.1.2 3 aL 1 ((m.senders.take p.1.1).map Letter.t), slo s jY 2 m.senders, slo g aL 1 m.getters],
   fun p => m.senders.length - p.1.1, ⟨(0, ⟨none, 0⟩), Nat.zero_le _⟩, ?_, ?_⟩
 · exact aC [99, 1, 2] zw2 zw0 zw2 zw5 zw4 rfl rfl
 · rintro ⟨⟨k, out⟩, hk⟩
   simp only at hk
   refine CaseB.mk (fun h => ?_) (fun h => ?_)
   · have hlt : k < m.senders.length := by simpa using h
     have hT : (m.senders.take (k + 1)).map Letter.t = (m.senders.take k).map Letter.t ++ [m.senders[k].t] := by
       rw [List.take_succ_eq_append_getElem hlt, List.map_append]; rfl
     refine aF jZ aA rfl rfl rfl rfl rfl ⟨rfl, rfl⟩ z31 k rfl z37 (fun ad => ?_)
     refine AllSl.mk fun y => ?_
     refine bR aI 1 aA (ys := [m.senders[k].t]) rfl rfl rfl rfl rfl rfl rfl rfl rfl (by decide) ⟨rfl, rfl⟩ rfl z31 z37 z37 (fun z => ?_)
     refine ⟨⟨(k + 1, z), by omega⟩, ?_, by simp; omega⟩
     have hw := oD k _ hlt b2
     exact aC [0, 2, 3] zw12 zw0 zw12 zw5 zw27 rfl rfl
   · have hge : m.senders.length ≤ k := by simpa using h
     have hT : (m.senders.take k).map Letter.t = m.senders.map Letter.t := by rw [List.take_of_length_le hge]
     refine cB aI aA  rfl rfl rfl rfl rfl rfl rfl rfl rfl (by decide) ⟨rfl, rfl⟩ z35 z31 z37 z37 (fun z => ?_)
     exact bY [0] ⟨z, rfl, rfl⟩ ⟨.inl ⟨_, rfl, (by first | rfl | ((simp only [hT, Chan.threads])))⟩, trivial⟩ rfl ⟨rfl, trivial⟩ (fun _ => (by first | rfl | ((simp only [hT, Chan.threads, hD, SV.den]))))
end Go.Proofs.YtchkcjeeknfchaaGreatDoor
namespace Go.Sx
set_option maxRecDepth 100000
set_option maxHeartbeats 100000000
open Go Go.RowKit
def Sl.cut (i : Sl) (l sz : Nat) : Sl := ⟨if i.c = l then i.a else i.a.map (·.add (l * sz)), i.c - l⟩
theorem RdS.cut {w : World} {i : Sl} {sz n l h : Nat} {cs : List Value} (hr : RdS w i sz cs n) (h1 : l ≤ h) (h2 : h ≤ n) : RdS w (i.cut l sz) sz ((cs.drop (l * sz)).take ((h - l) * sz)) (h - l) := by
 obtain ⟨g1, g2, g3, g4⟩ := hr
 have e1 : (h - l) * sz ≤ n * sz - l * sz := by rw [← Nat.sub_mul]; exact Nat.mul_le_mul_right _ (by omega)
 refine ⟨by rw [List.length_take, List.length_drop, g1]; omega, by simp only [Sl.cut]; omega, by simp only [Sl.cut]; omega, fun h0 => ?_⟩
 obtain ⟨ad, had, hc⟩ := g4 (by omega)
 refine ⟨ad.add (l * sz), by simp only [Sl.cut]; rw [if_neg (by omega), had]; rfl, fun j u hu => ?_⟩
 rw [gL]
 refine hc _ u ?_
 rw [List.getElem?_take] at hu
 split at hu
 · rw [List.getElem?_drop] at hu; exact hu
 · cases hu
theorem gN0 {i : Sl} {l sz n m b : Nat} (h : m ≤ n) (hf : (fSl true (i.cut l sz) sz [] m).foot b) : (fSl true i sz [] n).foot b := by
 obtain ⟨h0, ad, had, rfl⟩ := hf
 refine ⟨by omega, ?_⟩
 simp only [Sl.cut] at had
 split at had
 · exact ⟨ad, had, rfl⟩
 · cases hi : i.a with
   | none => rw [hi] at had; simp at had
   | some a0 => rw [hi] at had; simp at had; exact ⟨a0, rfl, by rw [← had, sM]⟩
section
variable {α : Type} {enc : α → List Value} {sz : Nat}
theorem wY (he : Enc enc sz) (xs : List α) (l h : Nat) : (((cells enc xs).drop (l * sz)).take ((h - l) * sz)) = cells enc ((xs.drop l).take (h - l)) := by
 rw [uY he, qJ he]
theorem rdCut (he : Enc enc sz) {F : List Fct} {i : Sl} {xs : List α} (l h : Nat) (h1 : l ≤ h) (h2 : h ≤ xs.length) {ys : List α} (hy : ys = (xs.drop l).take (h - l)) (hr : ∀ w, (∀ f ∈ F, f.P w) → RdS w i sz (cells enc xs) xs.length) :
   ∀ w, (∀ f ∈ F, f.P w) → RdS w (i.cut l sz) sz (cells enc ys) ys.length := by
 intro w hw
 have := (hr w hw).cut h1 h2
 rw [wY he] at this
 subst hy
 rw [show ((xs.drop l).take (h - l)).length = h - l by simp; omega]
 exact this
theorem lC0 (he : Enc enc sz) {w : World} {Q : Nat → Prop} {o : Bool} {i : Sl} {xs : List α} (l h : Nat) (h1 : l ≤ h) (h2 : h ≤ xs.length) {ys : List α} (hy : ys = (xs.drop l).take (h - l))
   (hr : (fSl o i sz (cells enc xs) xs.length).P w ∧ ∀ b, (fSl o i sz (cells enc xs) xs.length).foot b → Q b) :
   (fSl o (i.cut l sz) sz (cells enc ys) ys.length).P w ∧ ∀ b, (fSl o (i.cut l sz) sz (cells enc ys) ys.length).foot b → Q b := by
 have := (show RdS w i sz (cells enc xs) xs.length from hr.1).cut h1 h2
 rw [wY he] at this
 subst hy
 have hl : ((xs.drop l).take (h - l)).length = h - l := by simp; omega
 refine ⟨?_, fun b hb => hr.2 b ?_⟩
 · show RdS w (i.cut l sz) sz _ _
   rw [hl]
   exact this
 · exact gN0 (m := ((xs.drop l).take (h - l)).length) (n := xs.length) (by rw [hl]; omega) hb
theorem vH (he : Enc enc sz) {F : List Fct} {i : Sl} {xs : List α} (l : Nat) (h : l ≤ xs.length) (hr : ∀ w, (∀ f ∈ F, f.P w) → RdS w i sz (cells enc xs) xs.length) :
   ∀ w, (∀ f ∈ F, f.P w) → RdS w (i.cut l sz) sz (cells enc (xs.drop l)) (xs.drop l).length :=
 rdCut he l xs.length h (Nat.le_refl _) (by rw [List.take_of_length_le (by simp)]) hr
end
def pX (T : List (Nat × SV)) (d : Int) : Option Operand → Option Int
 | none => some d
 | some y => match aY T y with
   | some (.v (.int _ m)) => some m
   | _ => none
section
variable {E : Env} {ti : Nat → TI} {A : Nat → Nat} {T : List (Nat × SV)} {n c : Nat} {B : List (Nat × TypeId × Nat)} {M : List ((Nat × Nat) × SV)} {F Fs : List Fct} {o : Oper} {next : St → Prop} {a : Act} {w : World}
theorem pN (hT : TD E A T n c a w) {d : Int} {y : Operand} {m : Int} (h : pX T d (some y) = some m) : ∃ kd, a.eval y = .int kd m := by
 simp only [pX] at h
 split at h
 · rename_i k q hq
   simp at h; subst h
   exact ⟨k, (aE hT hq).1⟩
 · cases h
theorem jP0 {P : Program} {t e : TypeId} {ie : TypeInfo} (ht : P.underlying t = some (.slice e)) (hi : P.info? e = some ie) (i : Sl) (k l h : Nat) (lo hi' : Option Value) (hlo : (lo = none ∧ l = 0) ∨ ∃ kd, lo = some (.int kd (l : Int))) (hhi : (hi' = none ∧ h = k) ∨ ∃ kd, hi' = some (.int kd (h : Int))) (h1 : l ≤ h) (h2 : h ≤ k) (h3 : k ≤ i.c) :
   (Instr.sliceAt t (i.val k) lo hi' none).run P w = .ok ((i.cut l ie.size).val (h - l)) w := by
 rcases hlo with ⟨rfl, rfl⟩ | ⟨kd, rfl⟩ <;> rcases hhi with ⟨rfl, rfl⟩ | ⟨kd2, rfl⟩ <;>
   simp [Instr.sliceAt, Instr.slice, underlying, ht, Sl.val, Instr.sliceBounds, run_sliceBound, cM hi, Sl.cut, h1, show h ≤ i.c by omega]
theorem dO0 (hti : ∀ t, aT E.P t (ti t)) (hT : TD E A T n c a w) {t e : TypeId} {x : Operand} {lo hi : Option Operand} {i : Sl} {k : Nat} {ml mh : Int} {sz : Nat} {agg : Bool} {size : Nat} {zero : List Value} {fs : List (Nat × Nat × Bool)} {ik : Option IntKind} {kk bytes : Nat} {agg2 : Bool} {zero2 : List Value} {fs2 : List (Nat × Nat × Bool)} {el2 : Option TypeId} {ik2 : Option IntKind} {kk2 bytes2 : Nat}
   (hop : o.op = .slice t x lo hi none) (hx : aY T x = some (.v (i.val k)))
   (ht : ti t = .mk agg size zero fs (some e) ik kk bytes) (hte : ti e = .mk agg2 sz zero2 fs2 el2 ik2 kk2 bytes2)
   (hlo : pX T 0 lo = some ml) (hhi : pX T (k : Int) hi = some mh) {l h : Nat} (el : ml = (l : Int)) (eh : mh = (h : Int)) (h1 : l ≤ h) (h2 : h ≤ k) (h3 : k ≤ i.c) :
   (execOp a.eval o).run E.P w = .ok (.value ((i.cut l sz).val (h - l))) w := by
 have htt := hti t
 rw [ht] at htt
 obtain ⟨ii, dd, z, e1, e2, e3, e4, e5, e6, e7, e8, e9, e10, e11⟩ := aP htt
 have htt2 := hti e
 rw [hte] at htt2
 obtain ⟨ii2, dd2, z2, k1, k2, k3, k4, k5, k6, k7, k8, k9, k10, k11⟩ := aP htt2
 have hdd := fT e8
 subst el; subst eh
 have hx' : a.eval x = i.val k := (aE hT hx).1
 have := jP0 (P := E.P) (w := w) (by rw [e2, hdd]) k1 i k l h (lo.map a.eval) (hi.map a.eval) (by
   cases lo with
   | none => simp only [pX, Option.some.injEq] at hlo; exact .inl ⟨rfl, by omega⟩
   | some y => obtain ⟨kd, e⟩ := pN hT hlo; exact .inr ⟨kd, by simp [e]⟩) (by
   cases hi with
   | none => simp only [pX, Option.some.injEq] at hhi; exact .inl ⟨rfl, by omega⟩
   | some y => obtain ⟨kd, e⟩ := pN hT hhi; exact .inr ⟨kd, by simp [e]⟩) h1 h2 h3
 rw [k4] at this
 simp only [execOp, hop, hx', Option.map_none, this, Sem.run_bind, Sem.run_pure, Result.andThen_ok]
theorem mX {t e : TypeId} {x : Operand} {lo hi : Option Operand} {i : Sl} {k : Nat} {ml mh : Int} {sz : Nat} {d : Nat} {cs : List Value} {agg : Bool} {size : Nat} {zero : List Value} {fs : List (Nat × Nat × Bool)} {ik : Option IntKind} {kk bytes : Nat} {agg2 : Bool} {zero2 : List Value} {fs2 : List (Nat × Nat × Bool)} {el2 : Option TypeId} {ik2 : Option IntKind} {kk2 bytes2 : Nat}
   (hti : ∀ t, aT E.P t (ti t)) (hop : o.op = .slice t x lo hi none) (hx : aY T x = some (.v (i.val k)))
   (ht : ti t = .mk agg size zero fs (some e) ik kk bytes) (hte : ti e = .mk agg2 sz zero2 fs2 el2 ik2 kk2 bytes2) (hd : Dst E o d)
   (hlo : pX T 0 lo = some ml) (hhi : pX T (k : Int) hi = some mh) (hF : ∀ w, (∀ f ∈ F, f.P w) → RdS w i sz cs k)
   (l h m : Nat) (el : ml = (l : Int)) (eh : mh = (h : Int)) (h1 : l ≤ h) (h2 : h ≤ k) (hm : m = h - l)
   (hnext : next (.mk ((d, .v ((i.cut l sz).val m)) :: T) n c B M F)) :
   OpW (cQ E o next T n c B M F) := by
 refine ⟨fun A a w hW hT => ?_⟩
 obtain ⟨_, g2, _, _⟩ := hF w (fun f hf => (hW.fct f hf).1)
 subst hm
 refine aQ (dO0 hti hT hop hx ht hte hlo hhi el eh h1 h2 g2) ?_
 rw [hd.1]
 exact ⟨_, ⟨_, hW, hT.put (v := .v ((i.cut l sz).val (h - l))) hd.lt trivial⟩, hnext⟩
theorem d_cut {t e : TypeId} {x : Operand} {lo hi : Option Operand} {i : Sl} {k : Nat} {ml mh : Int} {sz : Nat} {d : Nat} {cs : List Value} {agg : Bool} {size : Nat} {zero : List Value} {fs : List (Nat × Nat × Bool)} {ik : Option IntKind} {kk bytes : Nat} {agg2 : Bool} {zero2 : List Value} {fs2 : List (Nat × Nat × Bool)} {el2 : Option TypeId} {ik2 : Option IntKind} {kk2 bytes2 : Nat}
   (hti : ∀ t, aT E.P t (ti t)) (hop : o.op = .slice t x lo hi none) (hx : aY T x = some (.v (i.val k)))
   (ht : ti t = .mk agg size zero fs (some e) ik kk bytes) (hte : ti e = .mk agg2 sz zero2 fs2 el2 ik2 kk2 bytes2) (hd : Dst E o d)
   (hlo : pX T 0 lo = some ml) (hhi : pX T (k : Int) hi = some mh) (hF : ∀ w, (∀ f ∈ Fs, f.P w) → RdS w i sz cs k)
   (l h m : Nat) (el : ml = (l : Int)) (eh : mh = (h : Int)) (h1 : l ≤ h) (h2 : h ≤ k) (hm : m = h - l) {n0 : Nat} {B0 : List (Nat × TypeId × Nat)} {Ms : List ((Nat × Nat) × SV)}
   (hnext : next (.mk ((d, .v ((i.cut l sz).val m)) :: T) n c B M F)) :
   OpW (∀ A, ∃ s : SV, (∀ a w, WD E A n0 B0 Ms Fs w → TD E A T n c a w → (execOp a.eval o).run E.P w = .ok (.value (s.den A)) w ∧ s.okT n c w) ∧ (∃ d, Dst E o d ∧ next (.mk ((d, s) :: T) n c B M F))) := by
 refine ⟨fun A => ⟨.v ((i.cut l sz).val m), fun a w hW hT => ?_, d, hd, hnext⟩⟩
 obtain ⟨_, g2, _, _⟩ := hF w (fun f hf => (hW.fct f hf).1)
 subst hm
 exact ⟨dO0 hti hT hop hx ht hte hlo hhi el eh h1 h2 g2, trivial⟩
theorem dP0 (hT : TD E A T n c a w) {op : BinOp} {t t' : TypeId} {x y : Operand} {u v r : Value} (hop : o.op = .binOp op t x y t') (hx : oA T x = some u) (hy : oA T y = some v)
   (hg : (eqGuard op t x y u v).run E.P w = .ok () w) (hb : (binOp op t u v).run E.P w = .ok r w) : (execOp a.eval o).run E.P w = .ok (.value r) w := by
 simp only [execOp, hop, iB hT hx, iB hT hy, Sem.run_bind, hg, Result.andThen_ok, hb, Sem.run_pure]
theorem bJ {op : BinOp} {t t' : TypeId} {x y : Operand} {u v : Value} {d : Nat} (hop : o.op = .binOp op t x y t') (hx : oA T x = some u) (hy : oA T y = some v) (hd : Dst E o d) (r : Value)
   (hg : ∀ w, (eqGuard op t x y u v).run E.P w = .ok () w) (hb : ∀ w, (binOp op t u v).run E.P w = .ok r w) (hnext : next (.mk ((d, .v r) :: T) n c B M F)) :
   OpW (cQ E o next T n c B M F) := by
 refine ⟨fun A a w hW hT => ?_⟩
 refine aQ (dP0 hT hop hx hy (hg w) (hb w)) ?_
 rw [hd.1]
 exact ⟨_, ⟨_, hW, hT.put (v := .v r) hd.lt trivial⟩, hnext⟩
theorem jB {op : BinOp} {t t' : TypeId} {x y : Operand} {u v : Value} {d : Nat} (hop : o.op = .binOp op t x y t') (hx : oA T x = some u) (hy : oA T y = some v) (hd : Dst E o d) (r : Value)
   (hg : ∀ w, (eqGuard op t x y u v).run E.P w = .ok () w) (hb : ∀ w, (binOp op t u v).run E.P w = .ok r w) {n0 : Nat} {B0 : List (Nat × TypeId × Nat)} {Ms : List ((Nat × Nat) × SV)}
   (hnext : next (.mk ((d, .v r) :: T) n c B M F)) :
   OpW (∀ A, ∃ s : SV, (∀ a w, WD E A n0 B0 Ms Fs w → TD E A T n c a w → (execOp a.eval o).run E.P w = .ok (.value (s.den A)) w ∧ s.okT n c w) ∧ (∃ d, Dst E o d ∧ next (.mk ((d, s) :: T) n c B M F))) :=
 ⟨fun _A => ⟨.v r, fun _a w _hW hT => ⟨dP0 hT hop hx hy (hg w) (hb w), trivial⟩, d, hd, hnext⟩⟩
theorem rD {P : Program} {t : TypeId} {k : IntKind} {p q r : Int} (hne : q ≠ 0) (hr : r = p.tmod q) (w : World) : (binOp .rem t (.int k p) (.int k q)).run P w = .ok (.int k r) w := by
 subst hr; simp [binOp, Op.intDiv, hne]
theorem yK {P : Program} {t : TypeId} {k : IntKind} {p q r : Int} (hne : q ≠ 0) (hr : r = k.wrap (p.tdiv q)) (w : World) : (binOp .quo t (.int k p) (.int k q)).run P w = .ok (.int k r) w := by
 subst hr; simp [binOp, Op.intDiv, hne]
theorem jQ0 {P : Program} {t : TypeId} {k : IntKind} {p q r : Int} (hr : r = k.wrap ((BitVec.ofInt k.bits p ^^^ BitVec.ofInt k.bits q).toNat : Int)) (w : World) : (binOp .xor t (.int k p) (.int k q)).run P w = .ok (.int k r) w := by
 subst hr; simp [binOp, Op.intBits]
end
def AtP (w : World) (g : Nat) : List Fct → Prop
 | [] => True
 | f :: r => (f.P w ∧ ∀ b, f.foot b → b < w.heap.size ∧ b ≠ g) ∧ AtP w g r
theorem AtP.at {w : World} {g : Nat} : ∀ {F : List Fct}, AtP w g F → At w F
 | [], _ => trivial
 | _ :: _, h => ⟨⟨h.1.1, fun b hb => (h.1.2 b hb).1⟩, AtP.at h.2⟩
theorem AtP.all {w : World} {g : Nat} : ∀ {F : List Fct}, AtP w g F → ∀ f ∈ F, ∀ b, f.foot b → b ≠ g
 | [], _, f, hf => by cases hf
 | _ :: _, h, f, hf => by
   rcases List.mem_cons.1 hf with rfl | hf
   · exact fun b hb => (h.1.2 b hb).2
   · exact AtP.all h.2 f hf
def Blk (w : World) (g : Nat) (ty : TypeId) (cs : List Value) : Prop := w.heap[g]? = some (.cells cs.toArray ty (0, 0))
def uG (w : World) (g : Nat) (ty : TypeId) (sz : Nat) (R : Value → List Value → List Fct → Prop) : Ending → World → Prop := fun e w' =>
 ∃ v cs L, e = .returned v ∧ ExtX (fun b => b = g) w w' ∧ Blk w' g ty cs ∧ cs.length = sz ∧ New w w' L ∧ R v cs L
def lZ0 (w : World) (ty : TypeId) (sz : Nat) (R : List Value → List Fct → Prop) : Ending → World → Prop := fun e w' =>
 ∃ g cs L, e = .returned (.pointer (some ⟨g, 0, none⟩)) ∧ Ext w w' ∧ w.heap.size ≤ g ∧ g < w'.heap.size ∧ Blk w' g ty cs ∧ cs.length = sz ∧ New w w' L ∧ (∀ f ∈ L, ∀ b, f.foot b → b ≠ g) ∧ R cs L
abbrev lA (P : Program) (w : World) (N g : Nat) : Env := ⟨P, w, fun b => b = g, N, 1, fun _ => g⟩
theorem WD.initP (P : Program) (w : World) (N g : Nat) (ty : TypeId) (cs : List Value) {F : List Fct} (hg : Blk w g ty cs) (h : AtP w g F) (ho : jX F) :
   WD (lA P w N g) (fun _ => g) 1 [(0, ty, cs.length)] (eY 0 0 (cs.map .v) []) F w := by
 have hlt : g < w.heap.size := (Array.getElem?_eq_some_iff.1 hg).1
 refine ⟨?_, ?_, ?_, fun k hk => rfl, Nat.le_refl _, ExtX.refl _ _, fun f hf => ?_, ?_⟩
 · intro k ty' sz hk
   simp only [List.mem_singleton, Prod.mk.injEq] at hk
   obtain ⟨rfl, rfl, rfl⟩ := hk
   exact ⟨Nat.zero_lt_one, hlt, .inr rfl, _, hg, by simp⟩
 · intro k ty1 sz1 k' ty2 sz2 h1 h2 _
   simp only [List.mem_singleton, Prod.mk.injEq] at h1 h2
   rw [h1.1, h2.1]
 · intro k o v hv
   rw [cZ] at hv
   split at hv
   · rename_i hc
     obtain ⟨rfl, _, hc3⟩ := hc
     rw [Nat.sub_zero, List.getElem?_map] at hv
     cases hx : cs[o]? with
     | none => rw [hx] at hv; simp at hv
     | some u =>
       rw [hx] at hv; simp at hv; subst hv
       refine ⟨⟨ty, cs.length, by simp⟩, ?_, trivial⟩
       rw [cell_of_row _ _ _ _ _ _ hg]
       show cs.toArray[o]? = some u
       simpa using hx
   · simp [dP] at hv
 · obtain ⟨h1, h2⟩ := vA h.at f hf
   obtain ⟨h3, h4⟩ := fL ho f hf
   exact ⟨h1, fun b hb => ⟨h2 b hb, fun k ty sz _ => (h.all f hf b hb).symm⟩, fun e => by rw [h4] at e; cases e⟩
 · rw [List.pairwise_iff_getElem]
   intro i j hi hj _ hor
   rw [(fL ho _ (List.getElem_mem hi)).1, (fL ho _ (List.getElem_mem hj)).1] at hor
   simp at hor
section
variable {P : Program} {f : FuncId} {fn : Func} {x : Code} {R : Ending → World → Prop} {ti : Nat → TI}
theorem sR (hf : P.funcs[f]? = some fn) (hb : fn.body = some x) (hti : ∀ t, aT P t (ti t)) (w : World) (N : Nat) (hN : fn.ntmps = N) (rs : List ResultVar) (hrs : fn.results.toList = rs) (g : Nat) (ty : TypeId) (cs : List Value) (sz : Nat) (hsz : dO cs = sz) (hg : Blk w g ty cs) (F : List Fct) (hF : AtP w g F) (ho : jX F)
   (l : List Value) (hl : l.length + 1 ≤ N)
   (hv : dJ (lA P w N g) ti x (mT (lA P w N g) ti rs R) (.mk (rA 0 (.p 0 0 :: l.map .v)) 1 0 [(0, ty, sz)] (eY 0 0 (cs.map .v) []) F)) : Calls P f (.pointer (some ⟨g, 0, none⟩) :: l).toArray w R := by
 subst hN; subst hrs
 rw [dN] at hsz
 subst hsz
 exact rB hf hb (lA P w fn.ntmps g) rfl rfl hti (.p 0 0 :: l.map .v) 1 [(0, ty, cs.length)] (eY 0 0 (cs.map .v) []) F (A := fun _ => g) (by simp [show (SV.den (fun _ => g) ∘ SV.v) = id from rfl, SV.den, ptr])
   (fun s hs => by
     rcases List.mem_cons.1 hs with rfl | hs
     · exact Nat.zero_lt_one
     · obtain ⟨u, _, rfl⟩ := List.mem_map.1 hs; trivial) z80 (WD.initP P w _ _ _ _ hg hF ho) hv
variable (hf : P.funcs[f]? = some fn) (hb : fn.body = some x) (hti : ∀ t, aT P t (ti t)) (w : World) (N : Nat) (hN : fn.ntmps = N) (rs : List ResultVar) (hrs : fn.results.toList = rs) (g : Nat) (ty : TypeId) (cs : List Value) (sz : Nat) (hsz : dO cs = sz) (hg : Blk w g ty cs) (F : List Fct) (hF : AtP w g F) (ho : jX F)
 include hf hb hti hN hrs hsz hg hF ho
theorem yL (hl : 1 ≤ N) (hv : dJ (lA P w N g) ti x (mT (lA P w N g) ti rs R) (.mk [(0, .p 0 0)] 1 0 [(0, ty, sz)] (eY 0 0 (cs.map .v) []) F)) : Calls P f #[.pointer (some ⟨g, 0, none⟩)] w R :=
 sR hf hb hti w N hN rs hrs g ty cs sz hsz hg F hF ho [] hl hv
theorem rE (a : Value) (hl : 2 ≤ N) (hv : dJ (lA P w N g) ti x (mT (lA P w N g) ti rs R) (.mk [(0, .p 0 0), (1, .v a)] 1 0 [(0, ty, sz)] (eY 0 0 (cs.map .v) []) F)) : Calls P f #[.pointer (some ⟨g, 0, none⟩), a] w R :=
 sR hf hb hti w N hN rs hrs g ty cs sz hsz hg F hF ho [a] hl hv
theorem jR0 (a b : Value) (hl : 3 ≤ N) (hv : dJ (lA P w N g) ti x (mT (lA P w N g) ti rs R) (.mk [(0, .p 0 0), (1, .v a), (2, .v b)] 1 0 [(0, ty, sz)] (eY 0 0 (cs.map .v) []) F)) : Calls P f #[.pointer (some ⟨g, 0, none⟩), a, b] w R :=
 sR hf hb hti w N hN rs hrs g ty cs sz hsz hg F hF ho [a, b] hl hv
end
section
variable {E : Env} {ti : Nat → TI} {A : Nat → Nat} {T : List (Nat × SV)} {n c : Nat} {B : List (Nat × TypeId × Nat)} {M : List ((Nat × Nat) × SV)} {F Fs : List Fct} {o : Oper} {next : St → Prop} {a : Act} {w w' : World}
def gV : List (Nat × TypeId × Nat) → Nat → Option (TypeId × Nat)
 | [], _ => none
 | (k, t, sz) :: r, k' => match Nat.beq k k' with
   | true => some (t, sz)
   | false => gV r k'
theorem cC : ∀ {B : List (Nat × TypeId × Nat)} {k t sz : Nat}, gV B k = some (t, sz) → (k, t, sz) ∈ B
 | [], _, _, _, h => by simp [gV] at h
 | (k, t, sz) :: r, k', t', sz', h => by
   simp only [gV] at h
   split at h
   · rename_i hb
     obtain rfl := Nat.eq_of_beq_eq_true hb
     simp at h
     obtain ⟨rfl, rfl⟩ := h
     simp
   · exact List.mem_cons_of_mem _ (cC h)
theorem WD.blk (h : WD E A n B M F w) {k ty sz : Nat} {cs : List Value} (hB : (k, ty, sz) ∈ B) (hM : mQ M k 0 sz = some cs) : Blk w (A k) ty cs ∧ cs.length = sz := by
 obtain ⟨_, _, _, cs0, h4, h5⟩ := h.key k ty sz hB
 obtain ⟨g1, g2⟩ := qH (fun k o v hv => (h.mem k o v hv).2.1) hM
 refine ⟨?_, g1⟩
 unfold Blk
 rw [h4]
 congr 1
 have : cs0 = cs.toArray := by
   apply Array.ext
   · simp [h5, g1]
   · intro j h1 h2
     have := g2 j cs[j] (List.getElem?_eq_getElem (by simpa using h2))
     rw [cell_of_row _ _ _ _ _ _ h4, Nat.zero_add] at this
     obtain ⟨_, e⟩ := Array.getElem?_eq_some_iff.1 this
     simpa using e
 rw [this]
theorem WD.offB (h : WD E A n B M F w) {k ty sz : Nat} (hB : gV B k = some (ty, sz)) {P : Fct} (i : Nat) (hi : F[i]? = some P) : ∀ b, P.foot b → b < w.heap.size ∧ b ≠ A k :=
 fun b hb => ⟨((h.fct _ (List.mem_of_getElem? hi)).2.1 b hb).1, fun e => ((h.fct _ (List.mem_of_getElem? hi)).2.1 b hb).2 k ty sz (cC hB) e.symm⟩
theorem WD.rdP (h : WD E A n B M F w) (g : Nat) {k ty sz : Nat} (hg : g = A k) (hB : gV B k = some (ty, sz)) (j : Nat) {old o2 : Bool} {i : Sl} {s m : Nat} {cs : List Value} (hi : F[j]? = some (fSl old i s cs m)) :
   (fSl o2 i s cs m).P w ∧ ∀ b, (fSl o2 i s cs m).foot b → b < w.heap.size ∧ b ≠ g := by
 subst hg
 exact ⟨(h.nth j hi).1, fun b hb => h.offB hB j hi b hb⟩
theorem WD.rdOwnP (h : WD E A n B M F w) (g : Nat) {k ty sz : Nat} (hg : g = A k) (hB : gV B k = some (ty, sz)) (j : Nat) {old o2 : Bool} {i : Sl} {e s m : Nat} {cs : List Value} (hi : F[j]? = some (gX old i e s cs m)) :
   (fSl o2 i s cs m).P w ∧ ∀ b, (fSl o2 i s cs m).foot b → b < w.heap.size ∧ b ≠ g := by
 subst hg
 exact ⟨nJ (h.nth j hi).1, fun b hb => h.offB hB j hi b hb.2⟩
theorem WD.callP (h : WD E A n B M F w) {k ty sz : Nat} (hk : (k, ty, sz) ∈ B) {cs : List Value} (hex : ExtX (fun b => b = A k) w w') (hnew : Blk w' (A k) ty cs) (hl : cs.length = sz) {L : List Fct} (hL : New w w' L) :
   WD E A n B (eY k 0 (cs.map .v) M) (L ++ F) w' := by
 obtain ⟨hk1, hk2, hk3, cs0, hk4, hk5⟩ := h.key k ty sz hk
 refine ⟨?_, h.inj, ?_, h.a0, h.n0, h.ext.trans' hex (fun i hi e => ?_), ?_, ?_⟩
 · intro k' ty' sz' hk'
   obtain ⟨g1, g2, g3, cs2, g4, g5⟩ := h.key k' ty' sz' hk'
   refine ⟨g1, Nat.lt_of_lt_of_le g2 hex.size, g3, ?_⟩
   by_cases e : A k' = A k
   · rw [e, hk4] at g4
     simp only [Option.some.injEq, Obj.cells.injEq] at g4
     obtain ⟨rfl, rfl, _⟩ := g4
     exact ⟨cs.toArray, by rw [e]; exact hnew, by simp; omega⟩
   · exact ⟨cs2, by rw [hex.block _ g2 e]; exact g4, g5⟩
 · intro k' o' v hv
   rw [cZ] at hv
   split at hv
   · rename_i hc
     obtain ⟨rfl, _, hc3⟩ := hc
     rw [Nat.sub_zero, List.getElem?_map] at hv
     cases hx : cs[o']? with
     | none => rw [hx] at hv; simp at hv
     | some u =>
       rw [hx] at hv; simp at hv; subst hv
       refine ⟨⟨ty, sz, hk⟩, ?_, trivial⟩
       rw [cell_of_row _ _ _ _ _ _ hnew]
       show cs.toArray[o']? = some u
       simpa using hx
   · rename_i hc
     obtain ⟨⟨ty', sz', hk'⟩, g2, g3⟩ := h.mem k' o' v hv
     refine ⟨⟨ty', sz', hk'⟩, ?_, g3⟩
     by_cases e : A k' = A k
     · have ek : k' = k := h.inj _ _ _ _ _ _ hk' hk e
       subst ek
       rw [cell_of_row _ _ _ _ _ _ hk4] at g2
       have : o' < cs0.size := (Array.getElem?_eq_some_iff.1 g2).1
       exact absurd ⟨rfl, Nat.zero_le _, by simp; omega⟩ hc
     · rw [← g2]
       exact World.cell?_of_block (hex.block _ (h.key _ _ _ hk').2.1 e)
 · subst e
   rcases hk3 with hk3 | hk3
   · omega
   · exact hk3
 · intro f hf
   rcases List.mem_append.1 hf with hf | hf
   · obtain ⟨h1, h2, h3⟩ := hL.all f hf
     refine ⟨h1, fun b hb => ⟨(h3 b hb).2, fun k ty sz hk e => ?_⟩, fun _ b hb => .inl (Nat.le_trans h.ext.size (h3 b hb).1)⟩
     have := (h.key k ty sz hk).2.1
     have := (h3 b hb).1
     omega
   · obtain ⟨g1, g2, g3⟩ := h.fct f hf
     exact ⟨Fct.keep g1 (fun b hb => (g2 b hb).1) hex (fun b hb e => (g2 b hb).2 k ty sz hk e.symm), fun b hb => ⟨Nat.lt_of_lt_of_le (g2 b hb).1 hex.size, (g2 b hb).2⟩, g3⟩
 · rw [List.pairwise_append]
   refine ⟨hL.dj, h.dj, fun f hf g hg _ b hb hb' => ?_⟩
   have := (hL.all f hf).2.2 b hb
   have := ((h.fct g hg).2.1 b hb').1
   omega
theorem WD.callN (h : WD E A n B M F w) {g ty sz : Nat} {cs : List Value} (hex : Ext w w') (hg1 : w.heap.size ≤ g) (hg2 : g < w'.heap.size) (hnew : Blk w' g ty cs) (hl : cs.length = sz) {L : List Fct} (hL : New w w' L) (hoff : ∀ f ∈ L, ∀ b, f.foot b → b ≠ g) :
   WD E (fun k => if k = n then g else A k) (n + 1) ((n, ty, sz) :: B) (eY n 0 (cs.map .v) M) (L ++ F) w' := by
 have h' := h.learn hex hL
 have hold : ∀ k ty sz, (k, ty, sz) ∈ B → k ≠ n := fun k ty sz hk => by have := (h.key k ty sz hk).1; omega
 have hlt : ∀ k ty sz, (k, ty, sz) ∈ B → A k < w.heap.size := fun k ty sz hk => (h.key k ty sz hk).2.1
 refine ⟨?_, ?_, ?_, ?_, Nat.le_succ_of_le h.n0, h'.ext, ?_, h'.dj⟩
 · intro k ty' sz' hk
   rcases List.mem_cons.1 hk with hk | hk
   · simp only [Prod.mk.injEq] at hk
     obtain ⟨rfl, rfl, rfl⟩ := hk
     simp only [if_true]
     exact ⟨Nat.lt_succ_self _, hg2, .inl (Nat.le_trans h.ext.size hg1), _, hnew, by simpa using hl⟩
   · obtain ⟨h1, h2, h3, h4⟩ := h'.key k ty' sz' hk
     simp only [if_neg (hold k ty' sz' hk)]
     exact ⟨by omega, h2, h3, h4⟩
 · intro k ty1 sz1 k' ty2 sz2 hk hk' he
   rcases List.mem_cons.1 hk with hk | hk <;> rcases List.mem_cons.1 hk' with hk' | hk'
   · simp only [Prod.mk.injEq] at hk hk'; omega
   · simp only [Prod.mk.injEq] at hk
     simp only [hk.1, if_true, if_neg (hold _ _ _ hk')] at he
     have := hlt _ _ _ hk'
     omega
   · simp only [Prod.mk.injEq] at hk'
     simp only [hk'.1, if_true, if_neg (hold _ _ _ hk)] at he
     have := hlt _ _ _ hk
     omega
   · simp only [if_neg (hold _ _ _ hk), if_neg (hold _ _ _ hk')] at he
     exact h.inj _ _ _ _ _ _ hk hk' he
 · intro k o v hv
   rw [cZ] at hv
   split at hv
   · rename_i hc
     obtain ⟨rfl, _, hc3⟩ := hc
     rw [Nat.sub_zero, List.getElem?_map] at hv
     cases hx : cs[o]? with
     | none => rw [hx] at hv; simp at hv
     | some u =>
       rw [hx] at hv; simp at hv; subst hv
       refine ⟨⟨ty, sz, by simp⟩, ?_, trivial⟩
       simp only [if_true]
       rw [cell_of_row _ _ _ _ _ _ hnew]
       show cs.toArray[o]? = some u
       simpa using hx
   · obtain ⟨⟨ty', sz', hk⟩, h2, h3⟩ := h'.mem k o v hv
     refine ⟨⟨ty', sz', by simp [hk]⟩, ?_, SV.small_more h3 (Nat.le_succ _)⟩
     simp only [if_neg (hold _ _ _ hk)]
     rw [SV.den_upd (SV.small_okT (c := 0) (w := w) h3) _ _ (Nat.le_refl _), ← h2]
 · intro k hk
   have hk' := h.n0
   simp only [if_neg (show k ≠ n by omega)]
   exact h.a0 k hk
 · intro f hf
   obtain ⟨h1, h2, h3⟩ := h'.fct f hf
   refine ⟨h1, fun b hb => ⟨(h2 b hb).1, fun k ty' sz' hk => ?_⟩, h3⟩
   rcases List.mem_cons.1 hk with hk | hk
   · simp only [Prod.mk.injEq] at hk
     simp only [hk.1, if_true]
     rcases List.mem_append.1 hf with hf | hf
     · exact (hoff f hf b hb).symm
     · have := ((h.fct f hf).2.1 b hb).1
       omega
   · simp only [if_neg (hold _ _ _ hk)]
     exact (h2 b hb).2 k ty' sz' hk
theorem jD (hT : TD E A T n c a w) {k : Call} {fo : Operand} {g : FuncId} {cap : List (Nat × Nat)} {l : List SV} (hc : aD E.P g = true)
   (hop : o.op = .call k) (hk : k.callee = .value fo) (hf : aY T fo = some (.f g cap)) (ha : iK T k.args.toList = some l) :
   (execOp a.eval o).run E.P w = .ok (.enter g ((l.map (SV.den A)) ++ cap.map (fun x => ptr A x.1 x.2)).toArray) w := by
 have hargs : (k.args.map a.eval).toList = l.map (SV.den A) := by rw [Array.toList_map]; exact iL hT ha
 have hfv := (aE hT hf).1
 have hcat : (k.args.map a.eval) ++ (cap.map (fun x => ptr A x.1 x.2)).toArray = ((l.map (SV.den A)) ++ cap.map (fun x => ptr A x.1 x.2)).toArray := by
   apply Array.ext'; rw [Array.toList_append, hargs]
 simp only [execOp, hop, resolve, hk, Sem.run_bind, hfv, SV.den, Deferred.ofValue, Sem.run_pure, Result.andThen_ok, Array.empty_append, invoke, hcat, kG hc]
theorem bH (R : Value → List Value → List Fct → Prop) {k : Call} {fo : Operand} {g : FuncId} {cap : List (Nat × Nat)} {l : List SV} {d kb ty sz : Nat} {cs : List Value} (hc : aD E.P g = true)
   (hop : o.op = .call k) (hk : k.callee = .value fo) (hf : aY T fo = some (.f g cap)) (ha : iK T k.args.toList = some (.p kb 0 :: l)) (hd : Dst E o d) (hB : gV B kb = some (ty, sz)) (hM : mQ M kb 0 sz = some cs)
   (hcall : ∀ A w ga, ga = A kb → WD E A n B M F w → Blk w ga ty cs → Calls E.P g (.pointer (some ⟨ga, 0, none⟩) :: ((l.map (SV.den A)) ++ cap.map (fun x => ptr A x.1 x.2))).toArray w (uG w ga ty sz R))
   (hnext : ∀ v cs L, R v cs L → jW kb 0 (cs.map .v) M fun M' => next (.mk ((d, .v v) :: T) n (c + 1) B M' (L ++ F))) :
   OpW (cQ E o next T n c B M F) := by
 refine ⟨fun A a w hW hT => ?_⟩
 unfold Oper.wp
 rw [jD hT hc hop hk hf ha, Oper.upon_enter]
 refine (hcall A w (A kb) rfl hW (hW.blk (cC hB) hM).1).mono ?_
 rintro e w' ⟨v, cs', L, rfl, he, hb, hl, hL, hR⟩
 have hn := hnext v cs' L hR
 rw [fV] at hn
 refine ⟨_, ⟨_, hW.callP (cC hB) he hb hl hL, ?_⟩, hn⟩
 rw [hd.1]
 exact (hT.step w').put (v := .v v) hd.lt trivial
theorem bQ0 (R : List Value → List Fct → Prop) {k : Call} {fo : Operand} {g : FuncId} {cap : List (Nat × Nat)} {l : List SV} {d : Nat} (ty sz : Nat) (hc : aD E.P g = true)
   (hop : o.op = .call k) (hk : k.callee = .value fo) (hf : aY T fo = some (.f g cap)) (ha : iK T k.args.toList = some l) (hd : Dst E o d)
   (hcall : ∀ A w, WD E A n B M F w → Calls E.P g ((l.map (SV.den A)) ++ cap.map (fun x => ptr A x.1 x.2)).toArray w (lZ0 w ty sz R))
   (hnext : ∀ cs L, R cs L → jW n 0 (cs.map .v) M fun M' => next (.mk ((d, .p n 0) :: T) (n + 1) (c + 1) ((n, ty, sz) :: B) M' (L ++ F))) :
   OpW (cQ E o next T n c B M F) := by
 refine ⟨fun A a w hW hT => ?_⟩
 unfold Oper.wp
 rw [jD hT hc hop hk hf ha, Oper.upon_enter]
 refine (hcall A w hW).mono ?_
 rintro e w' ⟨q, cs', L, rfl, he, hq1, hq2, hb, hl, hL, hoff, hR⟩
 have hn := hnext cs' L hR
 rw [fV] at hn
 refine ⟨_, ⟨_, hW.callN he hq1 hq2 hb hl hL hoff, ?_⟩, hn⟩
 rw [hd.1]
 have := (hT.alloc q w').put (d := d) (v := .p n 0) hd.lt (Nat.lt_succ_self n)
 simpa [SV.den, ptr] using this
theorem aD0 {Ms : List ((Nat × Nat) × SV)} {kb sz : Nat} {l : List SV} (h : dL0 Ms M) (hno : tM Ms kb 0 sz = true) (hl : l.length = sz) : dL0 Ms (eY kb 0 l M) := by
 intro k o v hv
 rw [cZ, if_neg ?_]
 · exact h k o v hv
 · have := oT hno k o v hv
   rw [hl]
   exact this
theorem gP (R : Value → List Value → List Fct → Prop) {k : Call} {fo : Operand} {g : FuncId} {cap : List (Nat × Nat)} {l : List SV} {d kb ty sz : Nat} {cs : List Value} {Ms : List ((Nat × Nat) × SV)} (hc : aD E.P g = true)
   (hop : o.op = .call k) (hk : k.callee = .value fo) (hf : aY T fo = some (.f g cap)) (ha : iK T k.args.toList = some (.p kb 0 :: l)) (hd : Dst E o d) (hB : gV B kb = some (ty, sz)) (hM : mQ M kb 0 sz = some cs) (hno : tM Ms kb 0 sz = true)
   (hcall : ∀ A w ga, ga = A kb → WD E A n B M F w → Blk w ga ty cs → Calls E.P g (.pointer (some ⟨ga, 0, none⟩) :: ((l.map (SV.den A)) ++ cap.map (fun x => ptr A x.1 x.2))).toArray w (uG w ga ty sz R))
   (hnext : ∀ v cs L, R v cs L → jW kb 0 (cs.map .v) M fun M' => next (.mk ((d, .v v) :: T) n (c + 1) B M' (L ++ F))) :
   OpW (opD E o Ms Fs next T n c B M F) := by
 refine ⟨fun hkm hkf A a w hW hT => ?_⟩
 unfold Oper.wp
 rw [jD hT hc hop hk hf ha, Oper.upon_enter]
 refine (hcall A w (A kb) rfl hW (hW.blk (cC hB) hM).1).mono ?_
 rintro e w' ⟨v, cs', L, rfl, he, hb, hl, hL, hR⟩
 have hn := hnext v cs' L hR
 rw [fV] at hn
 refine ⟨A, _, n, _, B, _, _, fun _ _ => rfl, Nat.le_refl _, fun _ h => h, aD0 hkm hno z80, fun f hf => List.mem_append_right _ (hkf f hf), hW.callP (cC hB) he hb hl hL, fun w2 => ?_, hn⟩
 rw [hd.1]
 exact (hT.step w2).put (v := .v v) hd.lt trivial
end
theorem jE {P : Program} {w : World} {N g ty sz : Nat} {n : Nat} {B : List (Nat × TypeId × Nat)} {M : List ((Nat × Nat) × SV)} {F : List Fct} {R : Value → List Value → List Fct → Prop} {l : List SV} (ix : List Nat) {L : List Fct} {v : Value} {cs : List Value} (hR : R v cs L) (hB : gV B 0 = some (ty, sz)) (hM : mQ M 0 0 sz = some cs)
   (hF : FW F ix L) (hix : hJ ix = true) (ho : nK L) (hv : ∀ A, hD A l = v) :
   RetW (∀ A w', WD (lA P w N g) A n B M F w' → uG w g ty sz R (.returned (hD A l)) w') := by
 refine ⟨fun A w' h => ?_⟩
 rw [hv A]
 have hs := h.pick ix hF hix
 obtain ⟨hb, hl⟩ := h.blk (cC hB) hM
 have ha : A 0 = g := h.a0 0 (by show 0 < 1; omega)
 rw [ha] at hb
 refine ⟨v, cs, L, rfl, h.ext, hb, hl, ⟨fun f hf => ?_, hs.dj⟩, hR⟩
 obtain ⟨h1, h2, h3⟩ := hs.fct f hf
 exact ⟨h1, dY ho f hf, fun b hb => ⟨(h3 (dY ho f hf) b hb).resolve_right (fun e => (h2 b hb).2 0 ty sz (cC hB) (ha.trans e.symm)), (h2 b hb).1⟩⟩
theorem retN {P : Program} {w : World} {N kb ty sz : Nat} {n : Nat} {B : List (Nat × TypeId × Nat)} {M : List ((Nat × Nat) × SV)} {F : List Fct} {R : List Value → List Fct → Prop} {l : List SV} (ix : List Nat) {L : List Fct} {cs : List Value} (hR : R cs L) (hl : l = [.p kb 0]) (hB : gV B kb = some (ty, sz)) (hM : mQ M kb 0 sz = some cs)
   (hF : FW F ix L) (hix : hJ ix = true) (ho : nK L) :
   RetW (∀ A w', WD (jA P w N) A n B M F w' → lZ0 w ty sz R (.returned (hD A l)) w') := by
 refine ⟨fun A w' h => ?_⟩
 subst hl
 have hs := h.pick ix hF hix
 obtain ⟨hb, hl⟩ := h.blk (cC hB) hM
 obtain ⟨_, g2, g3, _⟩ := h.key kb ty sz (cC hB)
 refine ⟨A kb, cs, L, rfl, h.ext, g3.resolve_right (fun h => h), g2, hb, hl, ⟨fun f hf => ?_, hs.dj⟩, fun f hf b hb => ?_, hR⟩
 · obtain ⟨h1, h2, h3⟩ := hs.fct f hf
   exact ⟨h1, dY ho f hf, fun b hb => ⟨(h3 (dY ho f hf) b hb).resolve_right (fun h => h), (h2 b hb).1⟩⟩
 · exact (((hs.fct f hf).2.1 b hb).2 kb ty sz (cC hB)).symm
end Go.Sx
namespace Go.Proofs.YtchkcjeeknfchaaGreatDoor
set_option maxRecDepth 100000
set_option maxHeartbeats 100000000
open Go Go.Sx Go.RowKit
def eI (x : UInt8) : List Value := [.int .u8 (x.toNat : Int)]
theorem rF : Enc eI 1 := ⟨fun _ => rfl, fun _ u hu => by simp [eI] at hu; subst hu; rfl⟩
def kA (bi : Sl) (bs : List UInt8) (p : Nat) : List Value := [bi.val bs.length, .int .i64 (p : Int)]
theorem cE {x : Int} (h0 : 0 ≤ x) (h : x < 9223372036854775808) : IntKind.i64.wrap x = x := by
 rw [IntKind.wrap_i64]; omega
theorem mA0 {x y : Int} (hx0 : 0 ≤ x) (hx : x < 9223372036854775808) (hy0 : 0 ≤ y) (hy : y < 9223372036854775808) :
   ∃ z : Nat, IntKind.i64.wrap ((BitVec.ofInt IntKind.i64.bits x ^^^ BitVec.ofInt IntKind.i64.bits y).toNat : Int) = (z : Int) ∧ z < 9223372036854775808 := by
 have h1 : (BitVec.ofInt IntKind.i64.bits x ^^^ BitVec.ofInt IntKind.i64.bits y).toNat = x.toNat ^^^ y.toNat := by
   rw [BitVec.toNat_xor, BitVec.toNat_ofInt, BitVec.toNat_ofInt]
   have e : ((2 ^ IntKind.i64.bits : Nat) : Int) = 18446744073709551616 := by decide
   rw [e, Int.emod_eq_of_lt hx0 (by omega), Int.emod_eq_of_lt hy0 (by omega)]
 rw [h1]
 have h2 : x.toNat ^^^ y.toNat < 2 ^ 63 := Nat.xor_lt_two_pow (by omega) (by omega)
 have h2' : x.toNat ^^^ y.toNat < 9223372036854775808 := h2
 exact ⟨_, cE (by omega) (by omega), h2'⟩
theorem gO0 {b1 b2 p q X : Nat} (h1 : b1 < 256) (h2 : b2 < 256) (hp : p < 1000000000) (hq : q ≤ p) (hX : X = b1 * 131 + b2 * 1117 + p * 29 + q * 53) :
   IntKind.i64.wrap (IntKind.i64.wrap (IntKind.i64.wrap (IntKind.i64.wrap (IntKind.i64.wrap (b1 : Int) * 131) + IntKind.i64.wrap (IntKind.i64.wrap (b2 : Int) * 1117)) + IntKind.i64.wrap ((p : Int) * 29)) + IntKind.i64.wrap ((q : Int) * 53)) = (X : Int) := by
 have w1 : IntKind.i64.wrap (b1 : Int) = b1 := cE (by omega) (by omega)
 have w2 : IntKind.i64.wrap (b2 : Int) = b2 := cE (by omega) (by omega)
 have w3 : IntKind.i64.wrap ((b1 : Int) * 131) = (b1 : Int) * 131 := cE (by omega) (by omega)
 have w4 : IntKind.i64.wrap ((b2 : Int) * 1117) = (b2 : Int) * 1117 := cE (by omega) (by omega)
 have w5 : IntKind.i64.wrap ((p : Int) * 29) = (p : Int) * 29 := cE (by omega) (by omega)
 have w6 : IntKind.i64.wrap ((q : Int) * 53) = (q : Int) * 53 := cE (by omega) (by omega)
 rw [w1, w2, w3, w4, w5, w6]
 rw [cE (x := (b1 : Int) * 131 + (b2 : Int) * 1117) (by omega) (by omega), cE (x := (b1 : Int) * 131 + (b2 : Int) * 1117 + (p : Int) * 29) (by omega) (by omega), cE (by omega) (by omega)]
 omega
theorem iQ (g : Nat) (bi : Sl) (bs : List UInt8) (p : Nat) (n : Int) (w : World) (hg : Blk w g 183 (kA bi bs p)) (h : AtP w g [slo bi eI 1 bs]) (hb : bs.length ≤ 2000) (hp : p < 1000000000) :
   Calls Tryz.prog 81 #[.pointer (some ⟨g, 0, none⟩), .int .i64 n] w (uG w g 183 2 fun v cs L => ∃ k : Nat, v = .int .i64 (k : Int) ∧ (1 ≤ n → (k : Int) < n) ∧ (n < 1 → k = 0) ∧ cs = kA bi bs (p + 1) ∧ L = []) := by
 have e1 : IntKind.i64.wrap ((p : Int) + 1) = ((p + 1 : Nat) : Int) := by rw [cE] <;> omega
 have e2 : IntKind.i64.wrap (((p + 1 : Nat) : Int) - 1) = (p : Int) := by rw [cE] <;> omega
 refine rE Tryz.func81 rfl aA w _ rfl _ rfl _ 183 _ 2 rfl hg _ h ⟨rfl, rfl, trivial⟩ _ (by decide) ?_
 refine CaseB.mk (fun h => ?_) (fun h => ?_)
 · refine jE [] ⟨0, rfl, ?_, fun _ => rfl, ?_, rfl⟩ rfl rfl trivial rfl trivial (fun _ => rfl)
   · intro h1
     simp at h; omega
   · simp only [kA, e1]
 · have hn1 : 1 ≤ n := by simp at h; omega
   refine CaseB.mk (fun h => ?_) (fun h => ?_)
   · exact jE [] ⟨0, rfl, fun _ => by omega, fun _ => rfl, by simp only [kA, e1], rfl⟩ rfl rfl trivial rfl trivial (fun _ => rfl)
   · have hL : 0 < bs.length := by
       rcases Nat.eq_zero_or_pos bs.length with h0 | h0
       · rw [h0] at h; simp at h
       · exact h0
     have e3 : IntKind.i64.wrap (IntKind.i64.wrap ((p : Int) + 1) - 1) = (p : Int) := by rw [e1, e2]
     refine CaseB.mk (fun h => ?_) (fun h => ?_)
     · rw [e3] at h
       have hlt : p < bs.length := by simpa using h
       have hb8 := bs[p].toNat_lt
       have e4 : IntKind.i64.wrap (bs[p].toNat : Int) = (bs[p].toNat : Int) := by rw [cE] <;> omega
       have e5 : ((bs[p].toNat % n.toNat : Nat) : Int) = (IntKind.i64.wrap (bs[p].toNat : Int)).tmod n := by
         rw [e4, Int.tmod_eq_emod_of_nonneg (by omega), Int.natCast_emod, Int.toNat_of_nonneg (by omega)]
       refine aF rF aA rfl rfl rfl rfl rfl ⟨rfl, rfl⟩ z31 p e3 z37 (fun ad => ?_)
       refine bJ rfl rfl rfl ⟨rfl, rfl⟩ (.int .i64 ((bs[p].toNat % n.toNat : Nat) : Int)) (fun w => dX w) (fun w => rD (by omega) e5 w) ?_
       refine jE [] ⟨_, rfl, fun _ => ?_, fun _ => by omega, by simp only [kA, e1], rfl⟩ rfl rfl trivial rfl trivial (fun _ => rfl)
       rw [Int.natCast_emod, Int.toNat_of_nonneg (by omega)]
       exact Int.emod_lt_of_pos _ (by omega)
     · refine aH aA z88 z88 z88 200 [((0, 0), .v (bi.val bs.length)), ((0, 1), .v (.int .i64 (IntKind.i64.wrap ((p : Int) + 1))))] [0] [_] z107 z116 ⟨rfl, trivial⟩ rfl ?_
       have r1 : ((p % bs.length : Nat) : Int) = (IntKind.i64.wrap (IntKind.i64.wrap ((p : Int) + 1) - 1)).tmod (bs.length : Int) := by
         rw [e3, Int.tmod_eq_emod_of_nonneg (by omega), Int.natCast_emod]
       have hm := Nat.mod_lt p hL
       refine jB rfl rfl rfl ⟨rfl, rfl⟩ (.int .i64 ((p % bs.length : Nat) : Int)) (fun w => dX w) (fun w => rD (by omega) r1 w) ?_
       refine bM (ti := aZ tab) rF aA rfl rfl rfl rfl rfl ⟨rfl, rfl⟩ z31 (p % bs.length) rfl z37 (fun ad => ?_)
       have r2 : (((p * 7 + 3) % bs.length : Nat) : Int) = (IntKind.i64.wrap (IntKind.i64.wrap (IntKind.i64.wrap (IntKind.i64.wrap ((p : Int) + 1) - 1) * 7) + 3)).tmod (bs.length : Int) := by
         rw [e3, show IntKind.i64.wrap ((p : Int) * 7) = ((p * 7 : Nat) : Int) by rw [cE] <;> omega, show IntKind.i64.wrap (((p * 7 : Nat) : Int) + 3) = ((p * 7 + 3 : Nat) : Int) by rw [cE] <;> omega, Int.tmod_eq_emod_of_nonneg (by omega), Int.natCast_emod]
       have hm2 := Nat.mod_lt (p * 7 + 3) hL
       refine jB rfl rfl rfl ⟨rfl, rfl⟩ (.int .i64 (((p * 7 + 3) % bs.length : Nat) : Int)) (fun w => dX w) (fun w => rD (by omega) r2 w) ?_
       refine bM (ti := aZ tab) rF aA rfl rfl rfl rfl rfl ⟨rfl, rfl⟩ z31 ((p * 7 + 3) % bs.length) rfl z37 (fun ad2 => ?_)
       have r3 : ((p / bs.length : Nat) : Int) = IntKind.i64.wrap ((IntKind.i64.wrap (IntKind.i64.wrap ((p : Int) + 1) - 1)).tdiv (bs.length : Int)) := by
         have := Nat.div_le_self p bs.length
         have h0 : 0 ≤ ((p / bs.length : Nat) : Int) := Int.natCast_nonneg _
         rw [e3, Int.tdiv_eq_ediv_of_nonneg (by omega), ← Int.natCast_ediv, cE] <;> omega
       refine jB rfl rfl rfl ⟨rfl, rfl⟩ (.int .i64 ((p / bs.length : Nat) : Int)) (fun w => dX w) (fun w => yK (by omega) r3 w) ?_
       have hb1 := bs[p % bs.length].toNat_lt
       have hb2 := bs[(p * 7 + 3) % bs.length].toNat_lt
       have hdl := Nat.div_le_self p bs.length
       obtain ⟨X, hX⟩ : ∃ X : Nat, X = bs[p % bs.length].toNat * 131 + bs[(p * 7 + 3) % bs.length].toNat * 1117 + p * 29 + p / bs.length * 53 := ⟨_, rfl⟩
       have r4 : IntKind.i64.wrap (IntKind.i64.wrap (IntKind.i64.wrap (IntKind.i64.wrap (IntKind.i64.wrap (bs[p % bs.length].toNat : Int) * 131) + IntKind.i64.wrap (IntKind.i64.wrap (bs[(p * 7 + 3) % bs.length].toNat : Int) * 1117)) + IntKind.i64.wrap (IntKind.i64.wrap (IntKind.i64.wrap ((p : Int) + 1) - 1) * 29)) + IntKind.i64.wrap (((p / bs.length : Nat) : Int) * 53)) = (X : Int) := by
         rw [e3]
         exact gO0 hb1 hb2 hp hdl hX
       have hXlt : X < 100000000000 := by
         generalize p / bs.length = q at *
         omega
       have r5 : ((X / 64 : Nat) : Int) = IntKind.i64.wrap ((IntKind.i64.wrap (IntKind.i64.wrap (IntKind.i64.wrap (IntKind.i64.wrap (IntKind.i64.wrap (bs[p % bs.length].toNat : Int) * 131) + IntKind.i64.wrap (IntKind.i64.wrap (bs[(p * 7 + 3) % bs.length].toNat : Int) * 1117)) + IntKind.i64.wrap (IntKind.i64.wrap (IntKind.i64.wrap ((p : Int) + 1) - 1) * 29)) + IntKind.i64.wrap (((p / bs.length : Nat) : Int) * 53))).tdiv 64) := by
         rw [r4, Int.tdiv_eq_ediv_of_nonneg (by omega), cE] <;> omega
       refine bJ rfl rfl rfl ⟨rfl, rfl⟩ (.int .i64 ((X / 64 : Nat) : Int)) (fun w => dX w) (fun w => yK (by omega) r5 w) ?_
       obtain ⟨z, hz, hz2⟩ := mA0 (x := (X : Int)) (y := ((X / 64 : Nat) : Int)) (by omega) (by omega) (by omega) (by omega)
       refine bJ rfl rfl rfl ⟨rfl, rfl⟩ (.int .i64 (z : Int)) (fun w => dX w) (fun w => jQ0 (by rw [r4]; exact hz.symm) w) ?_
       have r6 : ((z % n.toNat : Nat) : Int) = (z : Int).tmod n := by
         rw [Int.tmod_eq_emod_of_nonneg (by omega), Int.natCast_emod, Int.toNat_of_nonneg (by omega)]
       refine bJ rfl rfl rfl ⟨rfl, rfl⟩ (.int .i64 ((z % n.toNat : Nat) : Int)) (fun w => dX w) (fun w => rD (by omega) r6 w) ?_
       refine jE [] ⟨_, rfl, fun _ => ?_, fun _ => by omega, by simp only [kA, e1], rfl⟩ rfl rfl trivial rfl trivial (fun _ => rfl)
       rw [Int.natCast_emod, Int.toNat_of_nonneg (by omega)]
       exact Int.emod_lt_of_pos _ (by omega)
theorem iR (g : Nat) (bi : Sl) (bs : List UInt8) (p : Nat) (i : Sl) (xs : List Int) (w : World) (hg : Blk w g 183 (kA bi bs p)) (h : AtP w g [slo bi eI 1 bs, slo i aL 1 xs]) (hb : bs.length ≤ 2000) (hp : p < 1000000000) (h0 : 0 < xs.length) :
   Calls Tryz.prog 79 #[.pointer (some ⟨g, 0, none⟩), i.val xs.length] w (uG w g 183 2 fun v cs L => ∃ x : Int, v = .int .i64 x ∧ x ∈ xs ∧ cs = kA bi bs (p + 1) ∧ L = []) := by
 refine rE Tryz.func79 rfl aA w _ rfl _ rfl _ 183 _ 2 rfl hg _ h ⟨rfl, rfl, rfl, rfl, trivial⟩ _ (by decide) ?_
 refine bH _ rC rfl rfl rfl rfl ⟨rfl, rfl⟩ rfl rfl (fun A w ga hga hW hblk => (iQ ga bi bs p xs.length w hblk ⟨z29, trivial⟩ hb hp)) ?_
 rintro v cs L ⟨k, rfl, hk, _, rfl, rfl⟩
 have hlt : k < xs.length := by have := hk (by omega); omega
 refine aF aI aA rfl rfl rfl rfl rfl ⟨rfl, rfl⟩ z31 k rfl z37 (fun ad => ?_)
 exact jE [] ⟨_, rfl, List.getElem_mem hlt, rfl, rfl⟩ rfl rfl trivial rfl trivial (fun _ => rfl)
def mY (i : Sl) (xs : List UInt8) : Sl := if 2000 < xs.length then i.cut 0 1 else i
theorem mB0 (i : Sl) (xs : List UInt8) (w : World) (h : At w [slo i eI 1 xs]) (hb : xs.length ≤ 4294967296) :
   Calls Tryz.prog 77 #[i.val xs.length] w (lZ0 w 183 2 fun cs L => cs = kA (mY i xs) (xs.take 2000) 0 ∧ L = []) := by
 refine bU Tryz.func77 rfl aA w _ rfl _ rfl _ h ⟨rfl, rfl, trivial⟩ _ (by decide) ?_
 refine CaseB.mk (fun h => ?_) (fun h => ?_)
 · have h1 : 2000 < xs.length := by simp at h; omega
   refine mX aA rfl rfl rfl rfl ⟨rfl, rfl⟩ rfl rfl z31 (0) (2000) ((xs.take 2000)).length rfl rfl z37 z37 z37 ?_
   refine retN [] ⟨?_, rfl⟩ rfl rfl rfl trivial rfl trivial
   simp [kA, mY, h1]
 · have h1 : ¬ 2000 < xs.length := by simp at h; omega
   refine retN [] ⟨?_, rfl⟩ rfl rfl rfl trivial rfl trivial
   simp [kA, mY, h1, List.take_of_length_le (show xs.length ≤ 2000 by omega)]
theorem dT {w : World} {Q : Nat → Prop} {i : Sl} {xs : List UInt8} (h : (fSl true i 1 (cells eI xs) xs.length).P w ∧ ∀ b, (fSl true i 1 (cells eI xs) xs.length).foot b → Q b) :
   (fSl true (mY i xs) 1 (cells eI (xs.take 2000)) (xs.take 2000).length).P w ∧ ∀ b, (fSl true (mY i xs) 1 (cells eI (xs.take 2000)) (xs.take 2000).length).foot b → Q b := by
 unfold mY
 split
 · rename_i hl
   exact lC0 rF 0 2000 (by omega) (by omega) (by simp) h
 · rename_i hl
   rw [List.take_of_length_le (by omega)]
   exact h
theorem eC (t : Int) (w : World) : Calls Tryz.prog 122 #[.int .i64 t] w (Ret w fun v L => v = .bool (aW t) ∧ L = []) := by
 refine bU Tryz.func122 rfl aA w _ rfl _ rfl [] trivial trivial _ (by decide) ?_
 refine CaseB.mk (fun h => ?_) (fun h => ?_)
 all_goals
   refine aG ⟨?_, rfl⟩ (fun _ => rfl)
   simp [aW] at h ⊢
   omega
theorem eM (t : Int) (w : World) : Calls Tryz.prog 51 #[.int .i64 t] w (Ret w fun v L => v = .bool (aR t) ∧ L = []) := by
 refine bU Tryz.func51 rfl aA w _ rfl _ rfl [] trivial trivial _ (by decide) ?_
 refine CaseB.mk (fun h => ?_) (fun h => ?_)
 all_goals
   refine aG ⟨?_, rfl⟩ (fun _ => rfl)
   simp [aR] at h ⊢
   omega
def atM : List Int → Int → Int
 | [], _ => -1
 | x :: r, t => if x = t then 0 else (if atM r t < 0 then -1 else atM r t + 1)
theorem dU (xs : List Int) (t : Int) : 0 ≤ atM xs t ↔ t ∈ xs := by
 induction xs with
 | nil => simp [atM]
 | cons x r ih =>
   simp only [atM, List.mem_cons]
   split
   · rename_i h; simp [h]
   · rename_i h
     have h' : ¬ t = x := fun e => h e.symm
     simp only [h', false_or, ← ih]
     split <;> omega
theorem vI {xs : List Int} {t : Int} (h : t ∉ xs) : atM xs t = -1 := by
 induction xs with
 | nil => rfl
 | cons x r ih =>
   simp only [List.mem_cons, not_or] at h
   have := ih h.2
   simp only [atM]
   rw [if_neg (fun e => h.1 e.symm), if_pos (by omega)]
theorem bR0 {xs : List Int} {t : Int} {k : Nat} (hk : k < xs.length) (h : t ∉ xs.take k) (he : xs[k] = t) : atM xs t = (k : Int) := by
 induction xs generalizing k with
 | nil => simp at hk
 | cons x r ih =>
   cases k with
   | zero => simp at he; simp [atM, he]
   | succ k =>
     simp only [List.take_succ_cons, List.mem_cons, not_or] at h
     simp only [List.getElem_cons_succ] at he
     have := ih (by simpa using hk) h.2 he
     simp only [atM]
     rw [if_neg (fun e => h.1 e.symm), this, if_neg (by omega)]
     omega
theorem iS {xs : List Int} {t : Int} {k : Nat} (hk : k < xs.length) (h : t ∉ xs.take k) (he : xs[k] ≠ t) : t ∉ xs.take (k + 1) := by
 rw [List.take_succ_eq_append_getElem hk]
 simp only [List.mem_append, List.mem_singleton, not_or]
 exact ⟨h, fun e => he e.symm⟩
theorem iT (i : Sl) (xs : List Int) (t : Int) (w : World) (h : At w [slo i aL 1 xs]) (hb : xs.length ≤ 4294967296) :
   Calls Tryz.prog 124 #[i.val xs.length, .int .i64 t] w (Ret w fun v L => v = .int .i64 (atM xs t) ∧ L = []) := by
 refine cN Tryz.func124 rfl aA w _ rfl _ rfl _ h ⟨rfl, rfl, trivial⟩ _ _ (by decide) ?_
 refine LoopW.mk ⟨{ k : Nat // k ≤ xs.length ∧ t ∉ xs.take k },
   fun p => .mk [(0, .v (i.val xs.length)), (1, .v (.int .i64 t)), (5, .v (.int .i64 p.1))] 0 0 [] [] [slo i aL 1 xs],
   fun p => xs.length - p.1, ⟨0, Nat.zero_le _, by simp⟩, ?_, ?_⟩
 · exact aC [0] zw2 zw0 zw2 zw5 zw4 rfl rfl
 · rintro ⟨k, hk, he⟩
   refine CaseB.mk (fun h => ?_) (fun h => ?_)
   · have hlt : k < xs.length := by simpa using h
     refine aF aI aA rfl rfl rfl rfl rfl ⟨rfl, rfl⟩ z31 k rfl z37 (fun ad => ?_)
     refine CaseB.mk (fun h => ?_) (fun h => ?_)
     · have heq : xs[k] = t := by simpa using h
       exact aG ⟨congrArg (Value.int .i64) (bR0 hlt he heq).symm, rfl⟩ (fun _ => rfl)
     · have hne : xs[k] ≠ t := by simpa using h
       have hw := oD k _ hlt hb
       refine ⟨⟨k + 1, by omega, iS hlt he hne⟩, ?_, by simp; omega⟩
       exact aC [0] zw1 zw0 zw1 zw5 zw3 rfl rfl
   · have hge : xs.length ≤ k := by simpa using h
     rw [List.take_of_length_le hge] at he
     exact aG ⟨congrArg (Value.int .i64) (vI he).symm, rfl⟩ (fun _ => rfl)
theorem bS0 (k n : Nat) (h : k < n) (hn : n ≤ 8589934592) : IntKind.i64.wrap ((k : Int) + 1) = ((k + 1 : Nat) : Int) := by
 rw [IntKind.wrap_i64]; omega
theorem jS0 (i : Sl) (xs : List Int) (t : Int) (w : World) (h : At w [slo i aL 1 xs]) (hb : xs.length ≤ 8589934592) :
   Calls Tryz.prog 118 #[i.val xs.length, .int .i64 t] w (Ret w fun v L => v = .int .i64 (atM xs t) ∧ L = []) := by
 refine cN Tryz.func118 rfl aA w _ rfl _ rfl _ h ⟨rfl, rfl, trivial⟩ _ _ (by decide) ?_
 refine LoopW.mk ⟨{ k : Nat // k ≤ xs.length ∧ t ∉ xs.take k },
   fun p => .mk [(0, .v (i.val xs.length)), (1, .v (.int .i64 t)), (7, .v (.int .i64 xs.length)), (8, .v (.int .i64 p.1))] 0 0 [] [] [slo i aL 1 xs],
   fun p => xs.length - p.1, ⟨0, Nat.zero_le _, by simp⟩, ?_, ?_⟩
 · exact aC [0] zw2 zw0 zw2 zw5 zw4 rfl rfl
 · rintro ⟨k, hk, he⟩
   refine CaseB.mk (fun h => ?_) (fun h => ?_)
   · have hlt : k < xs.length := by simpa using h
     refine aF aI aA rfl rfl rfl rfl rfl ⟨rfl, rfl⟩ z31 k rfl z37 (fun ad => ?_)
     refine CaseB.mk (fun h => ?_) (fun h => ?_)
     · have heq : xs[k] = t := by have : t = xs[k] := by simpa using h
                                  exact this.symm
       exact aG ⟨congrArg (Value.int .i64) (bR0 hlt he heq).symm, rfl⟩ (fun _ => rfl)
     · have hne : xs[k] ≠ t := fun e => by simp [e] at h
       have hw := bS0 k _ hlt hb
       refine ⟨⟨k + 1, by omega, iS hlt he hne⟩, ?_, by simp; omega⟩
       exact aC [0] zw1 zw0 zw1 zw5 zw3 rfl rfl
   · have hge : xs.length ≤ k := by simpa using h
     rw [List.take_of_length_le hge] at he
     exact aG ⟨congrArg (Value.int .i64) (vI he).symm, rfl⟩ (fun _ => rfl)
theorem bT0 (i : Sl) (xs : List Int) (t : Int) (w : World) (h : At w [slo i aL 1 xs]) (hb : xs.length ≤ 8589934592) :
   Calls Tryz.prog 88 #[i.val xs.length, .int .i64 t] w (Ret w fun v L => v = .bool (decide (t ∈ xs)) ∧ L = []) := by
 refine cN Tryz.func88 rfl aA w _ rfl _ rfl _ h ⟨rfl, rfl, trivial⟩ _ _ (by decide) ?_
 refine aB _ cl118 rfl rfl rfl rfl ⟨rfl, rfl⟩ (fun A w hW => jS0 i xs t w ⟨z30, trivial⟩ hb) ?_
 rintro v L ⟨rfl, rfl⟩
 refine aG ⟨?_, rfl⟩ (fun _ => rfl)
 simp [dU]
def aS (xs : List Int) : Bool := decide (xs.Nodup ∧ ∀ x ∈ xs, aW x = true)
theorem vJ (xs : List Int) (x : Int) : bS (xs.map fun y => (y, true)) x = if x ∈ xs then some true else none := by
 induction xs with
 | nil => simp [bS]
 | cons y r ih =>
   simp only [List.map_cons, bS, ih, List.mem_cons]
   by_cases h : y = x
   · simp [h]
   · have h' : ¬ x = y := fun e => h e.symm
     simp [h, h']
theorem gP0 (xs : List Int) (x : Int) (h : x ∉ xs) : eZ (xs.map fun y => (y, true)) x true = (xs ++ [x]).map fun y => (y, true) := by
 rw [pL true (by have := vJ xs x; rw [if_neg h, vD] at this; cases hi : jM (xs.map fun y => (y, true)) x <;> simp [hi] at this; rfl)]
 simp
theorem kB {xs : List Int} {k : Nat} (hk : k < xs.length) : (xs.take (k + 1)).Nodup ↔ (xs.take k).Nodup ∧ xs[k] ∉ xs.take k := by
 rw [List.take_succ_eq_append_getElem hk, List.nodup_append]
 simp only [List.nodup_cons, List.not_mem_nil, not_false_eq_true, List.nodup_nil, and_self, List.mem_singleton, ne_eq, true_and]
 constructor
 · rintro ⟨h1, h2⟩
   exact ⟨h1, fun h => h2 _ h _ rfl rfl⟩
 · rintro ⟨h1, h2⟩
   exact ⟨h1, fun a ha b hb e => h2 (by rw [← hb, ← e]; exact ha)⟩
theorem lR {xs : List Int} {k : Nat} (hk : k < xs.length) (h : aW xs[k] = false ∨ xs[k] ∈ xs.take k) : aS xs = false := by
 simp only [aS, decide_eq_false_iff_not]
 rintro ⟨h1, h2⟩
 rcases h with h | h
 · rw [h2 _ (List.getElem_mem hk)] at h; cases h
 · exact ((kB hk).1 (h1.sublist (List.take_sublist _ _))).2 h
def venB (b : Bool) : Value := .bool b
theorem eO (i : Sl) (xs : List Int) (w : World) (h : At w [slo i aL 1 xs]) (hb : xs.length ≤ 8589934592) :
   Calls Tryz.prog 85 #[i.val xs.length] w (Ret w fun v L => v = .bool (aS xs) ∧ L = []) := by
 refine bU Tryz.func85 rfl aA w _ rfl _ rfl _ h ⟨rfl, rfl, trivial⟩ _ (by decide) ?_
 refine nM venB rfl ⟨rfl, rfl⟩ (fun r => ?_)
 refine LoopW.mk ⟨{ k : Nat // k ≤ xs.length ∧ (xs.take k).Nodup ∧ ∀ x ∈ xs.take k, aW x = true },
   fun p => .mk [(3, .v (.map (some r))), (7, .v (i.val xs.length)), (8, .v (.int .i64 xs.length)), (9, .v (.int .i64 p.1))] 0 0 [] [] [iJ r venB ((xs.take p.1).map fun y => (y, true)), slo i aL 1 xs],
   fun p => xs.length - p.1, ⟨0, Nat.zero_le _, by simp, by simp⟩, ?_, ?_⟩
 · exact aC [0, 1] zw2 zw0 zw2 zw5 zw4 rfl rfl
 · rintro ⟨k, hk, hn, ha⟩
   refine CaseB.mk (fun h => ?_) (fun h => ?_)
   · have hlt : k < xs.length := by simpa using h
     refine aF aI aA rfl rfl rfl rfl rfl ⟨rfl, rfl⟩ z31 k rfl z37 (fun ad => ?_)
     refine aB _ lV0 rfl rfl rfl rfl ⟨rfl, rfl⟩ (fun A w hW => qL _ w) ?_
     rintro v L ⟨rfl, rfl⟩
     refine CaseB.mk (fun h => ?_) (fun h => ?_)
     · have h1 : aW xs[k] = false := by simpa using h
       exact aG ⟨congrArg Value.bool (lR hlt (.inl h1)).symm, rfl⟩ (fun _ => rfl)
     · have h1 : aW xs[k] = true := by simpa using h
       by_cases hm : xs[k] ∈ xs.take k
       · refine tL 0 (qk := .i64) (kt := 3) (et := 4) (z := (.bool false)) rfl rfl rfl rfl ⟨rfl, rfl⟩ z88 z88 z88 (.bool true) (by rw [vJ, if_pos hm]; rfl) ?_
         refine CaseB.mk (fun h => ?_) (fun h => by cases h)
         exact aG ⟨congrArg Value.bool (lR hlt (.inr hm)).symm, rfl⟩ (fun _ => rfl)
       · refine tL 0 (qk := .i64) (kt := 3) (et := 4) (z := (.bool false)) rfl rfl rfl rfl ⟨rfl, rfl⟩ z88 z88 z88 (.bool false) (by rw [vJ, if_neg hm]) ?_
         refine CaseB.mk (fun h => by cases h) (fun h => ?_)
         have hT : xs.take (k + 1) = xs.take k ++ [xs[k]] := List.take_succ_eq_append_getElem hlt
         refine aC0 0 true (qk := .i64) (kt := 3) (et := 4) rfl rfl rfl rfl (fun _ => rfl) rfl rfl z88 z88 ((xs.take (k + 1)).map fun y => (y, true)) (by rw [gP0 _ _ hm, hT]) ?_
         have hw := bS0 k _ hlt hb
         refine ⟨⟨k + 1, by omega, (kB hlt).2 ⟨hn, hm⟩, ?_⟩, ?_, by simp; omega⟩
         · intro x hx
           rw [hT] at hx
           rcases List.mem_append.1 hx with hx | hx
           · exact ha x hx
           · simp at hx; subst hx; exact h1
         · exact aC [0, 1] zw1 zw0 zw1 zw5 zw3 rfl rfl
   · have hge : xs.length ≤ k := by simpa using h
     rw [List.take_of_length_le hge] at hn ha
     refine aG ⟨?_, rfl⟩ (fun _ => rfl)
     simp only [aS, Value.bool.injEq]
     exact (decide_eq_true ⟨hn, ha⟩).symm
theorem yM (m : Chan) (i s g : Sl) (w : World) (h : At w [slo i aL 1 m.items, slo s jY 2 m.senders, slo g aL 1 m.getters]) (hb : m.small) :
   Calls Tryz.prog 144 #[kZ m i s g] w (Ret w fun v L => ∃ i' s' g' : Sl, v = kZ m i' s' g' ∧ L = [own i' 3 aL 1 m.items, own s' 164 jY 2 m.senders, own g' 3 aL 1 m.getters]) := by
 obtain ⟨b1, b2, b3⟩ := hb
 refine bU Tryz.func144 rfl aA w _ rfl _ rfl _ h z112 _ (by decide) ?_
 refine aH aA z88 z88 z88 200 [((0, 0), .v (.int .i64 m.room)), ((0, 1), .v (i.val m.items.length)), ((0, 2), .v (s.val m.senders.length)), ((0, 3), .v (g.val m.getters.length)), ((0, 4), .v (.bool m.closed))] [0, 1, 2] [_, _, _] z94 z105 ⟨rfl, rfl, rfl, trivial⟩ rfl ?_
 repeat' ((conv => whnf); (first
   | refine BothW.mk ?_ ?_
   | refine AllSl.mk fun y => ?_
   | (refine pM rfl rfl ?_; refine oV (ti := aZ tab) aI aA (xs := ([] : List Int)) rfl rfl rfl rfl rfl rfl rfl rfl rfl (by decide) ⟨rfl, rfl⟩ z35 z31 z37 z37 z86 (fun y => ?_))
   | (refine pM rfl rfl ?_; refine oV (ti := aZ tab) jZ aA (xs := ([] : List Letter)) rfl rfl rfl rfl rfl rfl rfl rfl rfl (by decide) ⟨rfl, rfl⟩ z35 z31 z37 z37 z86 (fun y => ?_))
   | fail))
 all_goals
   exact bY [2, 1, 0] ⟨_, _, _, rfl, rfl⟩ ⟨.inl ⟨_, rfl, rfl⟩, .inl ⟨_, rfl, rfl⟩, .inl ⟨_, rfl, rfl⟩, trivial⟩ rfl ⟨rfl, rfl, rfl, trivial⟩ (fun _ => rfl)
theorem lT (s : Sl) (l : List Letter) (w : World) (h : At w [slo s jY 2 l]) (hb : l.length ≤ 4294967296) :
   Calls Tryz.prog 97 #[s.val l.length] w (Ret w fun v L => ∃ y : Sl, v = y.val ((l.take 7).map Letter.t).length ∧ L = [own y 3 aL 1 ((l.take 7).map Letter.t)]) := by
 refine bU Tryz.func97 rfl aA w _ rfl _ rfl _ h ⟨rfl, rfl, trivial⟩ _ (by decide) ?_
 refine AllSl.mk fun y0 => ?_
 refine LoopW.mk ⟨{ p : Nat × Sl // p.1 ≤ l.length ∧ p.1 ≤ 7 },
   fun p => .mk [(0, .v (s.val l.length)), (3, .v (p.1.2.val ((l.take p.1.1).map Letter.t).length)), (4, .v (.int .i64 p.1.1))] 0 0 [] [] [own p.1.2 3 aL 1 ((l.take p.1.1).map Letter.t), slo s jY 2 l],
   fun p => l.length - p.1.1, ⟨(0, y0), Nat.zero_le _, by omega⟩, ?_, ?_⟩
 · exact aC [0, 1] zw2 zw0 zw2 zw5 zw4 rfl rfl
 · rintro ⟨⟨k, out⟩, hk, hk7⟩
   simp only at hk hk7
   have hend : ¬ (k < l.length ∧ k ≤ 6) → (l.take k).map Letter.t = (l.take 7).map Letter.t := fun hn => by
     rcases Nat.lt_or_ge k l.length with h1 | h1
     · have : k = 7 := by omega
       rw [this]
     · rw [List.take_of_length_le h1, List.take_of_length_le (by omega)]
   refine CaseB.mk (fun h => ?_) (fun h => ?_)
   · have hlt : k < l.length := by simpa using h
     refine CaseB.mk (fun h => ?_) (fun h => ?_)
     · have h6 : k ≤ 6 := by simp at h; omega
       have hT : (l.take (k + 1)).map Letter.t = (l.take k).map Letter.t ++ [l[k].t] := by
         rw [List.take_succ_eq_append_getElem hlt, List.map_append]; rfl
       refine aF jZ aA rfl rfl rfl rfl rfl ⟨rfl, rfl⟩ z31 k rfl z37 (fun ad => ?_)
       refine AllSl.mk fun y => ?_
       refine bR aI 1 aA (ys := [l[k].t]) rfl rfl rfl rfl rfl rfl rfl rfl rfl (by decide) ⟨rfl, rfl⟩ rfl z31 z37 z37 (fun z => ?_)
       refine ⟨⟨(k + 1, z), by omega, by omega⟩, ?_, by simp; omega⟩
       have hw := oD k _ hlt hb
       exact aC [0, 2] zw12 zw0 zw12 zw5 zw27 rfl rfl
     · have h6 : ¬ k ≤ 6 := by simp at h; omega
       have hT := hend (fun h => h6 h.2)
       exact bY [0] ⟨out, rfl, rfl⟩ ⟨.inl ⟨_, rfl, z69⟩, trivial⟩ rfl ⟨rfl, trivial⟩ (fun _ => z69)
   · have hlt : ¬ k < l.length := by simpa using h
     have hT := hend (fun h => hlt h.1)
     exact bY [0] ⟨out, rfl, rfl⟩ ⟨.inl ⟨_, rfl, z69⟩, trivial⟩ rfl ⟨rfl, trivial⟩ (fun _ => z69)
end Go.Proofs.YtchkcjeeknfchaaGreatDoor
namespace Go.Sx
set_option maxRecDepth 100000
set_option maxHeartbeats 100000000
open Go Go.RowKit
def rG (G : List Fct) (b : Nat) : Prop := ∃ f ∈ G, f.foot b
structure NewG (w w' : World) (G L : List Fct) : Prop where
 all : ∀ f ∈ L, f.P w' ∧ f.old = false ∧ ∀ b, f.foot b → (w.heap.size ≤ b ∨ rG G b) ∧ b < w'.heap.size
 dj : L.Pairwise Dj
def bU0 (w : World) (G : List Fct) (R : Value → List Fct → Prop) : Ending → World → Prop := fun e w' =>
 ∃ v L, e = .returned v ∧ ExtX (rG G) w w' ∧ NewG w w' G L ∧ R v L
def gQ0 (w : World) (g : Nat) (ty : TypeId) (sz : Nat) (G : List Fct) (R : Value → List Value → List Fct → Prop) : Ending → World → Prop := fun e w' =>
 ∃ v cs L, e = .returned v ∧ ExtX (fun b => b = g ∨ rG G b) w w' ∧ Blk w' g ty cs ∧ cs.length = sz ∧ NewG w w' G L ∧ (∀ f ∈ L, ∀ b, f.foot b → b ≠ g) ∧ R v cs L
def kJ : List Fct → Prop
 | [] => True
 | f :: r => f.isOwn = true ∧ f.old = false ∧ kJ r
theorem lU : ∀ {F : List Fct}, kJ F → ∀ f ∈ F, f.isOwn = true ∧ f.old = false
 | [], _, f, hf => by cases hf
 | g :: r, h, f, hf => by
   rcases List.mem_cons.1 hf with rfl | hf
   · exact ⟨h.1, h.2.1⟩
   · exact lU h.2.2 f hf
structure AtG (w : World) (G Fo : List Fct) : Prop where
 at_ : At w (G ++ Fo)
 ok : kJ G
 dj : (G ++ Fo).Pairwise Dj
abbrev vK (P : Program) (w : World) (N : Nat) (G : List Fct) : Env := ⟨P, w, rG G, N, 0, fun _ => 0⟩
abbrev rH (P : Program) (w : World) (N g : Nat) (G : List Fct) : Env := ⟨P, w, fun b => b = g ∨ rG G b, N, 1, fun _ => g⟩
theorem WD.initG (P : Program) (w : World) (N : Nat) (A : Nat → Nat) {G Fo : List Fct} (h : AtG w G Fo) (ho : jX Fo) : WD (vK P w N G) A 0 [] [] (G ++ Fo) w := by
 refine ⟨by simp, by simp, by simp [dP], by simp, Nat.le_refl _, ExtX.refl _ _, fun f hf => ?_, h.dj⟩
 obtain ⟨h1, h2⟩ := vA h.at_ f hf
 refine ⟨h1, fun b hb => ⟨h2 b hb, by simp⟩, fun e b hb => .inr ?_⟩
 rcases List.mem_append.1 hf with hf | hf
 · exact ⟨f, hf, hb⟩
 · rw [(fL ho f hf).2] at e; cases e
theorem WD.initPG (P : Program) (w : World) (N g : Nat) (ty : TypeId) (cs : List Value) {G Fo : List Fct} (hg : Blk w g ty cs) (h : AtG w G Fo) (hoff : ∀ f ∈ G ++ Fo, ∀ b, f.foot b → b ≠ g) (ho : jX Fo) :
   WD (rH P w N g G) (fun _ => g) 1 [(0, ty, cs.length)] (eY 0 0 (cs.map .v) []) (G ++ Fo) w := by
 have hlt : g < w.heap.size := (Array.getElem?_eq_some_iff.1 hg).1
 refine ⟨?_, ?_, ?_, fun k hk => rfl, Nat.le_refl _, ExtX.refl _ _, fun f hf => ?_, h.dj⟩
 · intro k ty' sz hk
   simp only [List.mem_singleton, Prod.mk.injEq] at hk
   obtain ⟨rfl, rfl, rfl⟩ := hk
   exact ⟨Nat.zero_lt_one, hlt, .inr (.inl rfl), _, hg, by simp⟩
 · intro k ty1 sz1 k' ty2 sz2 h1 h2 _
   simp only [List.mem_singleton, Prod.mk.injEq] at h1 h2
   rw [h1.1, h2.1]
 · intro k o v hv
   rw [cZ] at hv
   split at hv
   · rename_i hc
     obtain ⟨rfl, _, hc3⟩ := hc
     rw [Nat.sub_zero, List.getElem?_map] at hv
     cases hx : cs[o]? with
     | none => rw [hx] at hv; simp at hv
     | some u =>
       rw [hx] at hv; simp at hv; subst hv
       refine ⟨⟨ty, cs.length, by simp⟩, ?_, trivial⟩
       rw [cell_of_row _ _ _ _ _ _ hg]
       show cs.toArray[o]? = some u
       simpa using hx
   · simp [dP] at hv
 · obtain ⟨h1, h2⟩ := vA h.at_ f hf
   refine ⟨h1, fun b hb => ⟨h2 b hb, fun k ty sz _ => (hoff f hf b hb).symm⟩, fun e b hb => .inr (.inr ?_)⟩
   rcases List.mem_append.1 hf with hf | hf
   · exact ⟨f, hf, hb⟩
   · rw [(fL ho f hf).2] at e; cases e
section
variable {P : Program} {f : FuncId} {fn : Func} {x : Code} {R : Ending → World → Prop} {ti : Nat → TI}
theorem pO (hf : P.funcs[f]? = some fn) (hb : fn.body = some x) (hti : ∀ t, aT P t (ti t)) (w : World) (N : Nat) (hN : fn.ntmps = N) (rs : List ResultVar) (hrs : fn.results.toList = rs) (G Fo : List Fct) (hF : AtG w G Fo) (ho : jX Fo)
   (l : List Value) (args : Array Value) (ha : args.toList = l) (hl : Nat.ble l.length N = true)
   (hv : dJ (vK P w N G) ti x (mT (vK P w N G) ti rs R) (.mk (rA 0 (l.map .v)) 0 0 [] [] (G ++ Fo))) : Calls P f args w R := by
 subst hN; subst hrs
 exact rB hf hb (vK P w fn.ntmps G) rfl rfl hti (l.map .v) 0 [] [] (G ++ Fo) (A := fun _ => 0) (by simp [ha, show (SV.den (fun _ => 0) ∘ SV.v) = id from rfl]) (fun s hs => by obtain ⟨u, _, rfl⟩ := List.mem_map.1 hs; trivial) (by simpa using Nat.le_of_ble_eq_true hl) (WD.initG P w _ _ hF ho) hv
end
theorem iZ {P : Program} {w : World} {N : Nat} {n : Nat} {B : List (Nat × TypeId × Nat)} {M : List ((Nat × Nat) × SV)} {F G : List Fct} {R : Value → List Fct → Prop} {l : List SV} (ix : List Nat) {L : List Fct} {v : Value} (hR : R v L) (hF : FW F ix L) (hix : hJ ix = true) (ho : nK L) (hv : ∀ A, hD A l = v) :
   RetW (∀ A w', WD (vK P w N G) A n B M F w' → bU0 w G R (.returned (hD A l)) w') := by
 refine ⟨fun A w' h => ?_⟩
 rw [hv A]
 have hs := h.pick ix hF hix
 refine ⟨v, L, rfl, h.ext, ⟨fun f hf => ?_, hs.dj⟩, hR⟩
 obtain ⟨h1, h2, h3⟩ := hs.fct f hf
 exact ⟨h1, dY ho f hf, fun b hb => ⟨h3 (dY ho f hf) b hb, (h2 b hb).1⟩⟩
theorem lD0 {P : Program} {w : World} {N g ty sz : Nat} {n : Nat} {B : List (Nat × TypeId × Nat)} {M : List ((Nat × Nat) × SV)} {F G : List Fct} {R : Value → List Value → List Fct → Prop} {l : List SV} (ix : List Nat) {L : List Fct} {v : Value} {cs : List Value} (hR : R v cs L) (hB : gV B 0 = some (ty, sz)) (hM : mQ M 0 0 sz = some cs)
   (hF : FW F ix L) (hix : hJ ix = true) (ho : nK L) (hv : ∀ A, hD A l = v) :
   RetW (∀ A w', WD (rH P w N g G) A n B M F w' → gQ0 w g ty sz G R (.returned (hD A l)) w') := by
 refine ⟨fun A w' h => ?_⟩
 rw [hv A]
 have hs := h.pick ix hF hix
 obtain ⟨hb, hl⟩ := h.blk (cC hB) hM
 have ha : A 0 = g := h.a0 0 (by show 0 < 1; omega)
 rw [ha] at hb
 have hne : ∀ f ∈ L, ∀ b, f.foot b → b ≠ g := fun f hf b hb e => ((hs.fct f hf).2.1 b hb).2 0 ty sz (cC hB) (ha.trans e.symm)
 refine ⟨v, cs, L, rfl, h.ext, hb, hl, ⟨fun f hf => ?_, hs.dj⟩, hne, hR⟩
 obtain ⟨h1, h2, h3⟩ := hs.fct f hf
 refine ⟨h1, dY ho f hf, fun b hb => ⟨?_, (h2 b hb).1⟩⟩
 rcases h3 (dY ho f hf) b hb with h4 | h4 | h4
 · exact .inl h4
 · exact absurd h4 (hne f hf b hb)
 · exact .inr h4
def eI0 : List Nat → Nat → Bool
 | [], _ => false
 | x :: r, k => match Nat.beq x k with
   | true => true
   | false => eI0 r k
theorem vL : ∀ {l : List Nat} {k : Nat}, eI0 l k = true ↔ k ∈ l
 | [], k => by simp [eI0]
 | x :: r, k => by
   simp only [eI0, List.mem_cons]
   by_cases h : x = k
   · subst h; rw [Nat.beq_refl]; simp
   · have h' : ¬ k = x := fun e => h e.symm
     rw [show Nat.beq x k = false from by rw [← Bool.not_eq_true]; intro e; exact h (Nat.eq_of_beq_eq_true e)]
     simp [vL, h']
def hU (ix : List Nat) : Nat → List Fct → List Fct
 | _, [] => []
 | k, f :: r => match eI0 ix k with
   | true => hU ix (k + 1) r
   | false => f :: hU ix (k + 1) r
theorem lB (ix : List Nat) : ∀ (F : List Fct) (k : Nat), (hU ix k F).Sublist F
 | [], _ => List.Sublist.refl _
 | f :: r, k => by
   simp only [hU]
   split
   · exact (lB ix r (k + 1)).cons _
   · exact (lB ix r (k + 1)).cons_cons _
theorem mZ (ix : List Nat) : ∀ (F : List Fct) (k : Nat), ∀ f ∈ hU ix k F, ∃ j, F[j]? = some f ∧ ¬ (k + j) ∈ ix
 | [], _, f, hf => by cases hf
 | g :: r, k, f, hf => by
   simp only [hU] at hf
   split at hf
   · obtain ⟨j, h1, h2⟩ := mZ ix r (k + 1) f hf
     exact ⟨j + 1, by simpa using h1, by rw [show k + (j + 1) = k + 1 + j by omega]; exact h2⟩
   · rename_i hm
     rcases List.mem_cons.1 hf with rfl | hf
     · exact ⟨0, rfl, fun h => by rw [Nat.add_zero, ← vL] at h; rw [h] at hm; cases hm⟩
     · obtain ⟨j, h1, h2⟩ := mZ ix r (k + 1) f hf
       exact ⟨j + 1, by simpa using h1, by rw [show k + (j + 1) = k + 1 + j by omega]; exact h2⟩
theorem wZ {F : List Fct} : ∀ {ix : List Nat} {G : List Fct}, FK F ix G → ∀ f ∈ G, ∃ i ∈ ix, F[i]? = some f
 | [], [], _, f, hf => by cases hf
 | [], _ :: _, h, _, _ => h.elim
 | _ :: _, [], h, _, _ => h.elim
 | i :: ix, g :: r, h, f, hf => by
   rcases List.mem_cons.1 hf with rfl | hf
   · exact ⟨i, by simp, h.1⟩
   · obtain ⟨j, h1, h2⟩ := wZ h.2 f hf
     exact ⟨j, by simp [h1], h2⟩
inductive Der : Fct → Fct → Prop
 | sl {o : Bool} {i : Sl} {sz n : Nat} {cs : List Value} : Der (fSl o i sz cs n) (fSl true i sz cs n)
 | own {o : Bool} {i : Sl} {e sz n : Nat} {cs : List Value} : Der (gX o i e sz cs n) (fSl true i sz cs n)
 | gen {g f : Fct} (h1 : ∀ w, g.P w → f.P w) (h2 : ∀ b, f.foot b → g.foot b) (h3 : f.isOwn = false) (h4 : f.old = true) : Der g f
theorem Der.out {g f : Fct} (h : Der g f) : (∀ w, g.P w → f.P w) ∧ (∀ b, f.foot b → g.foot b) ∧ f.isOwn = false ∧ f.old = true := by
 cases h with
 | sl => exact ⟨fun _ h => h, fun _ h => h, rfl, rfl⟩
 | own => exact ⟨fun _ h => nJ h, fun _ h => h.2, rfl, rfl⟩
 | gen h1 h2 h3 h4 => exact ⟨h1, h2, h3, h4⟩
def FD (F : List Fct) : List Nat → List Fct → Prop
 | [], [] => True
 | j :: jx, f :: r => (∃ g, F[j]? = some g ∧ Der g f) ∧ FD F jx r
 | _, _ => False
theorem dQ0 {F : List Fct} : ∀ {ix : List Nat} {G : List Fct}, FD F ix G → ∀ f ∈ G, ∃ i ∈ ix, ∃ g, F[i]? = some g ∧ Der g f
 | [], [], _, f, hf => by cases hf
 | [], _ :: _, h, _, _ => h.elim
 | _ :: _, [], h, _, _ => h.elim
 | i :: ix, g :: r, h, f, hf => by
   rcases List.mem_cons.1 hf with rfl | hf
   · obtain ⟨g, h1, h2⟩ := h.1
     exact ⟨i, by simp, g, h1, h2⟩
   · obtain ⟨j, h1, h2⟩ := dQ0 h.2 f hf
     exact ⟨j, by simp [h1], h2⟩
section
variable {E : Env} {ti : Nat → TI} {A : Nat → Nat} {T : List (Nat × SV)} {n c : Nat} {B : List (Nat × TypeId × Nat)} {M : List ((Nat × Nat) × SV)} {F Fs : List Fct} {o : Oper} {next : St → Prop} {a : Act} {w w' : World}
def yN (ix jx : List Nat) : Bool := match jx with
 | [] => true
 | j :: r => match eI0 ix j with
   | true => false
   | false => yN ix r
theorem xA : ∀ {ix jx : List Nat}, yN ix jx = true → ∀ j ∈ jx, ¬ j ∈ ix
 | _, [], _, j, hj => by cases hj
 | ix, k :: r, h, j, hj => by
   simp only [yN] at h
   split at h
   · cases h
   · rename_i hm
     rcases List.mem_cons.1 hj with rfl | hj
     · intro e; rw [vL.2 e] at hm; cases hm
     · exact xA h j hj
theorem WD.atG (h : WD E A n B M F w) (ix : List Nat) {G : List Fct} (hG : FK F ix G) (hix : hJ ix = true) (hok : kJ G) (jx : List Nat) {Fo : List Fct} (hFo : FD F jx Fo) (hm : yN ix jx = true) : AtG w G Fo := by
 have hg : ∀ f ∈ G, f.P w ∧ ∀ b, f.foot b → b < w.heap.size := fun f hf => by
   obtain ⟨i, _, hi⟩ := wZ hG f hf
   exact h.nth i hi
 have hoo : ∀ f ∈ Fo, (f.P w ∧ ∀ b, f.foot b → b < w.heap.size) ∧ f.isOwn = false := fun f hf => by
   obtain ⟨i, _, g, hi, hd⟩ := dQ0 hFo f hf
   obtain ⟨d1, d2, d3, _⟩ := hd.out
   exact ⟨⟨d1 w (h.nth i hi).1, fun b hb => (h.nth i hi).2 b (d2 b hb)⟩, d3⟩
 have hat : ∀ L : List Fct, (∀ f ∈ L, f.P w ∧ ∀ b, f.foot b → b < w.heap.size) → At w L := fun L => by
   induction L with
   | nil => intro _; trivial
   | cons f r ih => intro hl; exact ⟨hl f (by simp), ih fun f hf => hl f (by simp [hf])⟩
 refine ⟨hat _ fun f hf => ?_, hok, ?_⟩
 · rcases List.mem_append.1 hf with hf | hf
   · exact hg f hf
   · exact (hoo f hf).1
 · rw [List.pairwise_append]
   refine ⟨(h.pick ix (FK.fw hG) hix).dj, ?_, fun f hf g hg => ?_⟩
   · rw [List.pairwise_iff_getElem]
     intro p q hp hq _ hor
     rw [(hoo _ (List.getElem_mem hp)).2, (hoo _ (List.getElem_mem hq)).2] at hor
     simp at hor
   · obtain ⟨i, hi1, hi2⟩ := wZ hG f hf
     obtain ⟨j, hj1, g0, hj2, hd⟩ := dQ0 hFo g hg
     have hne : i ≠ j := fun e => xA hm j hj1 (by rw [← e]; exact hi1)
     have hdj := fW h.dj hne hi2 hj2
     intro _ b hb hb'
     exact hdj (.inl (lU hok f hf).1) b hb (hd.out.2.1 b hb')
theorem WD.atG_off (h : WD E A n B M F w) {k ty sz : Nat} (hB : gV B k = some (ty, sz)) {ga : Nat} (hga : ga = A k) {ix : List Nat} {G : List Fct} (hG : FK F ix G) {jx : List Nat} {Fo : List Fct} (hFo : FD F jx Fo) : ∀ f ∈ G ++ Fo, ∀ b, f.foot b → b ≠ ga := by
 subst hga
 intro f hf b hb e
 rcases List.mem_append.1 hf with hf | hf
 · obtain ⟨i, _, hi⟩ := wZ hG f hf
   exact ((h.fct _ (List.mem_of_getElem? hi)).2.1 b hb).2 k ty sz (cC hB) e.symm
 · obtain ⟨i, _, g, hi, hd⟩ := dQ0 hFo f hf
   exact ((h.fct _ (List.mem_of_getElem? hi)).2.1 b (hd.out.2.1 b hb)).2 k ty sz (cC hB) e.symm
theorem WD.callG (h : WD E A n B M F w) {ix : List Nat} {G : List Fct} (hG : FK F ix G) (hok : kJ G) (hex : ExtX (rG G) w w') {L : List Fct} (hL : NewG w w' G L) : WD E A n B M (L ++ hU ix 0 F) w' := by
 have hgf : ∀ b, rG G b → b < w.heap.size ∧ (∀ k ty sz, (k, ty, sz) ∈ B → A k ≠ b) ∧ (E.w0.heap.size ≤ b ∨ E.X b) ∧ ∀ f ∈ hU ix 0 F, ¬ f.foot b := by
   rintro b ⟨g, hg, hb⟩
   obtain ⟨i, hi1, hi2⟩ := wZ hG g hg
   obtain ⟨h1, h2, h3⟩ := h.fct _ (List.mem_of_getElem? hi2)
   obtain ⟨o1, o2⟩ := lU hok g hg
   refine ⟨(h2 b hb).1, (h2 b hb).2, h3 o2 b hb, fun f hf hfb => ?_⟩
   obtain ⟨j, hj1, hj2⟩ := mZ ix F 0 f hf
   rw [Nat.zero_add] at hj2
   exact fW h.dj (fun e => hj2 (by rw [← e]; exact hi1)) hi2 hj1 (.inl o1) b hb hfb
 have hsub := h.sub (lB ix F 0)
 have h' := hsub.grow hex (fun k ty sz hk hg => (hgf _ hg).2.1 k ty sz hk rfl) (fun f hf b hb hg => (hgf b hg).2.2.2 f hf hb) (fun b hb hg => (hgf b hg).2.2.1.resolve_left (by omega))
 refine ⟨h'.key, h'.inj, h'.mem, h'.a0, h'.n0, h'.ext, ?_, ?_⟩
 · intro f hf
   rcases List.mem_append.1 hf with hf | hf
   · obtain ⟨h1, h2, h3⟩ := hL.all f hf
     refine ⟨h1, fun b hb => ⟨(h3 b hb).2, fun k ty sz hk e => ?_⟩, fun _ b hb => ?_⟩
     · rcases (h3 b hb).1 with h4 | h4
       · have := (h.key k ty sz hk).2.1
         omega
       · exact (hgf b h4).2.1 k ty sz hk e
     · rcases (h3 b hb).1 with h4 | h4
       · exact .inl (Nat.le_trans h.ext.size h4)
       · exact (hgf b h4).2.2.1
   · exact h'.fct f hf
 · rw [List.pairwise_append]
   refine ⟨hL.dj, h'.dj, fun f hf g hg _ b hb hb' => ?_⟩
   rcases ((hL.all f hf).2.2 b hb).1 with h4 | h4
   · have := ((hsub.fct g hg).2.1 b hb').1
     omega
   · exact (hgf b h4).2.2.2 g hg hb'
theorem hY (R : Value → List Fct → Prop) (ix : List Nat) {G : List Fct} {k : Call} {fo : Operand} {g : FuncId} {cap : List (Nat × Nat)} {l : List SV} {d : Nat} (hc : aD E.P g = true)
   (hop : o.op = .call k) (hk : k.callee = .value fo) (hf : aY T fo = some (.f g cap)) (ha : iK T k.args.toList = some l) (hd : Dst E o d) (hG : FK F ix G) (hok : kJ G)
   (hcall : ∀ A w, WD E A n B M F w → Calls E.P g ((l.map (SV.den A)) ++ cap.map (fun x => ptr A x.1 x.2)).toArray w (bU0 w G R))
   (hnext : ∀ v L, R v L → next (.mk ((d, .v v) :: T) n (c + 1) B M (L ++ hU ix 0 F))) :
   OpW (cQ E o next T n c B M F) := by
 refine ⟨fun A a w hW hT => ?_⟩
 unfold Oper.wp
 rw [jD hT hc hop hk hf ha, Oper.upon_enter]
 refine (hcall A w hW).mono ?_
 rintro e w' ⟨v, L, rfl, he, hL, hR⟩
 refine ⟨_, ⟨_, hW.callG hG hok he hL, ?_⟩, hnext v L hR⟩
 rw [hd.1]
 exact (hT.step w').put (v := .v v) hd.lt trivial
theorem WD.turnX (h : WD E A n B M F w) {k g : Nat} {i : Sl} {e sz p q : Nat} {cs ds : List Value} (hk : F[k]? = some (gX false i e sz cs p)) (hi : i.a = some ⟨g, 0, none⟩)
   (hX : ExtX (fun b => b = g) w w') (ho : w'.ownsRow 0 e sz (i.val q) q ds) : WD E A n B M (gX false i e sz ds q :: F.eraseIdx k) w' := by
 have hfk := h.fct _ (List.mem_of_getElem? hk)
 have hgf : (gX false i e sz cs p).foot g := ⟨_, hi, rfl⟩
 have hfg : ∀ b, (gX false i e sz ds q).foot b → b = g := by
   rintro b ⟨ad, h1, rfl⟩
   rw [hi] at h1; injection h1 with h1; subst h1; rfl
 have hsub := h.sub (iO F k)
 have hdj := eB h.dj hk
 have hW' : WD E A n B M (F.eraseIdx k) w' := by
   refine hsub.grow hX (fun k' ty sz' hk' e => (hfk.2.1 g hgf).2 k' ty sz' hk' e) (fun f hf b hb e => hdj f hf (.inl rfl) g hgf (e ▸ hb)) (fun b hb e => ?_)
   subst e
   exact (hfk.2.2 rfl b hgf).resolve_left (by omega)
 refine ⟨hW'.key, hW'.inj, hW'.mem, hW'.a0, hW'.n0, hW'.ext, ?_, ?_⟩
 · intro f hf
   rcases List.mem_cons.1 hf with rfl | hf
   · refine ⟨ho, fun b hb => ?_, fun _ b hb => ?_⟩
     · obtain rfl := hfg b hb
       exact ⟨Nat.lt_of_lt_of_le (hfk.2.1 b hgf).1 hX.size, (hfk.2.1 b hgf).2⟩
     · obtain rfl := hfg b hb
       exact hfk.2.2 rfl b hgf
   · exact hW'.fct f hf
 · rw [List.pairwise_cons]
   refine ⟨fun f hf _ b hb hb' => ?_, hW'.dj⟩
   obtain rfl := hfg b hb
   exact hdj f hf (.inl rfl) b hgf hb'
theorem xB {P : Program} {i : Sl} {e sz p g off : Nat} {cs vs : List Value} (hown : w.ownsRow 0 e sz (i.val p) p cs) (hi : i.a = some ⟨g, 0, none⟩) (hle : off + vs.length ≤ p * sz) (h1 : ∀ v ∈ vs, v.oneCell' = true) :
   ∃ w', (storeCells ⟨g, off, none⟩ vs).run P w = .ok () w' ∧ ExtX (fun b => b = g) w w' ∧ w'.ownsRow 0 e sz (i.val p) p (cs.take off ++ vs ++ cs.drop (off + vs.length)) := by
 rcases mS hown with ⟨h2, _⟩ | ⟨g', cur, h2, h3, h4, h5, h6, h7⟩
 · rw [hi] at h2; cases h2
 · rw [hi] at h2
   injection h2 with h2
   injection h2 with h2
   subst h2
   have hpc : p * sz ≤ i.c * sz := Nat.mul_le_mul_right _ h4
   have hrun := run_storeCells_at (P := P) g off e vs 0 cur w h3 z87 h1
   refine ⟨_, hrun, ?_⟩
   simp only [Nat.add_zero]
   generalize hcs' : (List.take off cur.toList ++ vs ++ List.drop (off + vs.length) cur.toList).toArray = cs'
   have hsz : cs'.size = i.c * sz := by rw [← hcs']; simp; omega
   have hnew : (w.setRow g cs').heap[g]? = some (.cells cs' e (0, 0)) := setRow_heap w g cur cs' e (0, 0) h3
   have hother : ∀ b, b ≠ g → (w.setRow g cs').heap[b]? = w.heap[b]? := fun b hb => by
     simp only [World.setRow, Array.getElem?_modify]
     rw [if_neg (fun e => hb e.symm)]
   have hhsz : (w.setRow g cs').heap.size = w.heap.size := by simp [World.setRow]
   have hl := hown.1
   refine ⟨⟨rfl, rfl, rfl, by rw [hhsz]; exact Nat.le_refl _, fun b _ hb => hother b hb⟩, by simp; omega, .inr ⟨g, i.c, cs', by simp only [Sl.val, hi], Nat.zero_le _, hnew, h4, h5, hsz, ?_⟩⟩
   rw [← hcs', ← h7]
   have hcl : cur.toList.length = i.c * sz := by simpa using h6
   have e1 : (List.take (p * sz) cur.toList).take off = cur.toList.take off := by rw [List.take_take]; congr 1; omega
   have e2 : (List.take (p * sz) cur.toList).drop (off + vs.length) = (cur.toList.drop (off + vs.length)).take (p * sz - (off + vs.length)) := by rw [List.drop_take]
   rw [e1, e2]
   have e3 : (List.take off cur.toList ++ vs).length = off + vs.length := by rw [List.length_append, List.length_take, hcl]; omega
   show List.take (p * sz) (List.take off cur.toList ++ vs ++ List.drop (off + vs.length) cur.toList) = _
   rw [List.take_append, e3, List.take_of_length_le (by rw [e3]; omega)]
theorem xC {α : Type} {enc : α → List Value} {sz : Nat} (he : Enc enc sz) {xs : List α} {j off : Nat} {y : α} {vs : List Value} (hj : j < xs.length) (hle : off + vs.length ≤ sz) (hy : enc y = (enc xs[j]).take off ++ vs ++ (enc xs[j]).drop (off + vs.length)) :
   cells enc (xs.set j y) = (cells enc xs).take (j * sz + off) ++ vs ++ (cells enc xs).drop (j * sz + off + vs.length) := by
 have hsp : xs = xs.take j ++ xs[j] :: xs.drop (j + 1) := by rw [← List.drop_eq_getElem_cons hj, List.take_append_drop]
 have hset : xs.set j y = xs.take j ++ y :: xs.drop (j + 1) := by rw [List.set_eq_take_append_cons_drop, if_pos hj]
 have hc : cells enc xs = cells enc (xs.take j) ++ (enc xs[j] ++ cells enc (xs.drop (j + 1))) := by
   conv => lhs; rw [hsp]
   rw [kI]; rfl
 have hlt : (cells enc (xs.take j)).length = j * sz := by rw [kH he]; simp; rw [Nat.min_eq_left (by omega)]
 have hle2 : (enc xs[j]).length = sz := he.len _
 have t1 : (cells enc xs).take (j * sz + off) = cells enc (xs.take j) ++ (enc xs[j]).take off := by
   rw [hc, List.take_append, hlt, List.take_of_length_le (by rw [hlt]; omega), Nat.add_sub_cancel_left, List.take_append, hle2, show off - sz = 0 by omega]
   simp
 have t2 : (cells enc xs).drop (j * sz + off + vs.length) = (enc xs[j]).drop (off + vs.length) ++ cells enc (xs.drop (j + 1)) := by
   rw [hc, List.drop_append, hlt, List.drop_of_length_le (by rw [hlt]; omega), show j * sz + off + vs.length - j * sz = off + vs.length by omega, List.drop_append, hle2, show off + vs.length - sz = 0 by omega]
   simp
 rw [hset, kI, t1, t2]
 show cells enc (xs.take j) ++ (enc y ++ cells enc (xs.drop (j + 1))) = _
 rw [hy]
 simp [List.append_assoc]
theorem cL {α : Type} {enc : α → List Value} {sz : Nat} (_he : Enc enc sz) (k1 : Nat) {t e : TypeId} {x ix : Operand} {i : Sl} {xs : List α} {kd : IntKind} {m : Int} {d : Nat} {agg : Bool} {size : Nat} {zero : List Value} {fs : List (Nat × Nat × Bool)} {ik : Option IntKind} {kk bytes : Nat} {agg2 : Bool} {zero2 : List Value} {fs2 : List (Nat × Nat × Bool)} {el2 : Option TypeId} {ik2 : Option IntKind} {kk2 bytes2 : Nat}
   (hti : ∀ t, aT E.P t (ti t)) (hop : o.op = .indexAddr t x ix) {m0 : Nat} (hx : aY T x = some (.v (i.val m0))) (hix : aY T ix = some (.v (.int kd m)))
   (ht : ti t = .mk agg size zero fs (some e) ik kk bytes) (hte : ti e = .mk agg2 sz zero2 fs2 el2 ik2 kk2 bytes2) (hd : Dst E o d)
   (hF : F[k1]? = some (own i e enc sz xs)) (hm0 : m0 = xs.length) (j : Nat) (hj : m = (j : Int)) (hlt : j < xs.length)
   (hnext : ∀ g, i.a = some ⟨g, 0, none⟩ → next (.mk ((d, .v (.pointer (some ⟨g, j * sz, none⟩))) :: T) n c B M F)) :
   OpW (cQ E o next T n c B M F) := by
 subst hm0
 refine ⟨fun A a w hW hT => ?_⟩
 have hown := (hW.nth k1 hF).1
 rcases mS hown with ⟨_, h2, _⟩ | ⟨g, cur, h2, _⟩
 · omega
 have htt := hti t
 rw [ht] at htt
 obtain ⟨ii, dd, z, e1, e2, e3, e4, e5, e6, e7, e8, e9, e10, e11⟩ := aP htt
 have htt2 := hti e
 rw [hte] at htt2
 obtain ⟨ii2, dd2, z2, k1, k2, k3, k4, k5, k6, k7, k8, k9, k10, k11⟩ := aP htt2
 have hdd := fT e8
 subst hj
 have hr : (execOp a.eval o).run E.P w = .ok (.value (.pointer (some ⟨g, j * sz, none⟩))) w := by
   have hx' : a.eval x = .slice (some ⟨g, 0, none⟩) xs.length i.c := by rw [(aE hT hx).1]; simp [SV.den, Sl.val, h2]
   have hix' : a.eval ix = .int kd j := (aE hT hix).1
   simp [execOp, hop, Instr.indexAt, hx', hix', asIntOf, underlying, e2, hdd, cM k1, k4, hlt]
   unfold Addr.add
   split <;> simp_all
 refine aQ hr ?_
 rw [hd.1]
 exact ⟨_, ⟨_, hW, hT.put (v := .v (.pointer (some ⟨g, j * sz, none⟩))) hd.lt trivial⟩, hnext g h2⟩
theorem xD {t : TypeId} {x : Operand} {k : Nat} {g off o2 sz2 d : Nat} {ag : Bool} {agg : Bool} {size : Nat} {zero : List Value} {fs : List (Nat × Nat × Bool)} {el : Option TypeId} {ik : Option IntKind} {kk bytes : Nat}
   (hti : ∀ t, aT E.P t (ti t)) (hop : o.op = .fieldAddr t x k) (hx : aY T x = some (.v (.pointer (some ⟨g, off, none⟩)))) (ht : ti t = .mk agg size zero fs el ik kk bytes) (hk : nth fs k = some (o2, sz2 + 1, ag)) (hd : Dst E o d)
   (hnext : next (.mk ((d, .v (.pointer (some ⟨g, off + o2, none⟩))) :: T) n c B M F)) : OpW (cQ E o next T n c B M F) := by
 refine ⟨fun A a w hW hT => ?_⟩
 have htt := hti t
 rw [ht] at htt
 obtain ⟨ii, dd, z, e1, e2, e3, e4, e5, e6, e7, e8, e9, e10, e11⟩ := aP htt
 obtain ⟨fields, f, fi, fd, rfl, hfi, rfl, g1, g2, g3, g4⟩ := qX e7 hk
 have hx' : a.eval x = .pointer (some ⟨g, off, none⟩) := (aE hT hx).1
 have hr : (execOp a.eval o).run E.P w = .ok (.value (.pointer (some ⟨g, off + f.offset, none⟩))) w := by
   have hadd : (⟨g, off, none⟩ : Addr).add f.offset = ⟨g, off + f.offset, none⟩ := yE (fun _ => g) 0 off f.offset
   simp [execOp, hop, hx', Instr.fieldAt, underlying, e2, hfi, Instr.sureAddr, fieldPlace, cM g1, g2, hadd]
 refine aQ hr ?_
 rw [hd.1]
 exact ⟨_, ⟨_, hW, hT.put (v := .v (.pointer (some ⟨g, off + f.offset, none⟩))) hd.lt trivial⟩, hnext⟩
theorem bW {α : Type} {enc : α → List Value} {sz : Nat} (he : Enc enc sz) (k1 : Nat) {xs : List α} {i : Sl} {t e : TypeId} {x y : Operand} {g ad : Nat} {s : SV} {l : List SV} {sz2 : Nat} {agg : Bool} {zero : List Value} {fs : List (Nat × Nat × Bool)} {el : Option TypeId} {ik : Option IntKind} {kk bytes : Nat}
   (hti : ∀ t, aT E.P t (ti t)) (hop : o.op = .store t x y) (hd : o.dst = none) (hx : aY T x = some (.v (.pointer (some ⟨g, ad, none⟩)))) (hy : aY T y = some s) (hl : iM s = some l) (ht : ti t = .mk agg sz2 zero fs el ik kk bytes) (hlen : dO l = sz2)
   (hF : F[k1]? = some (own i e enc sz xs)) (hi : i.a = some ⟨g, 0, none⟩) (j off : Nat) (y0 : α) (had : ad = j * sz + off) (hj : j < xs.length) (hle : Nat.ble (off + sz2) sz = true) (vs : List Value) (hvs : ∀ A, l.map (SV.den A) = vs)
   (hy0 : enc y0 = (enc xs[j]).take off ++ vs ++ (enc xs[j]).drop (off + vs.length))
   (hnext : next (.mk T n (c + 1) B M (own i e enc sz (xs.set j y0) :: F.eraseIdx k1))) : OpW (cQ E o next T n c B M F) := by
 refine ⟨fun A a w hW hT => ?_⟩
 have hown := (hW.nth k1 hF).1
 have htt := hti t
 rw [ht] at htt
 obtain ⟨ii, dd, z, e1, e2, e3, e4, e5, e6, e7, e8, e9, e10, e11⟩ := aP htt
 obtain ⟨h1, h2⟩ := aE hT hy
 have h3 : a.eval x = .pointer (some ⟨g, ad, none⟩) := (aE hT hx).1
 obtain ⟨c1, c2, c3⟩ := iN (A := A) hl h2
 rw [hvs A] at c1
 have hvl : vs.length = sz2 := by rw [← hvs A, List.length_map, ← dN]; exact hlen
 have hle' := Nat.le_of_ble_eq_true hle
 have hjs : (j + 1) * sz ≤ xs.length * sz := Nat.mul_le_mul_right _ hj
 rw [Nat.succ_mul] at hjs
 subst had
 obtain ⟨w', hrun, hX, hnew⟩ := xB (P := E.P) (w := w) (off := j * sz + off) (vs := vs) hown hi (by omega) (fun v hv => by
   rw [← hvs A] at hv
   obtain ⟨q, hq, rfl⟩ := List.mem_map.1 hv
   exact c3 q hq)
 rw [← xC he hj (by omega) hy0] at hnew
 have hr : (execOp a.eval o).run E.P w = .ok .skip w' := by
   have hcs : (s.den A).cells.size = ii.size := by
     have : (s.den A).cells.toList.length = vs.length := by rw [c1]
     simp at this
     rw [this, hvl, e4]
   simp only [execOp, hop, Instr.storeAt, h1, h3, Instr.sureAddr, Sem.run_bind, Sem.run_pure, Result.andThen_ok, storeVar, cM e1]
   rw [if_neg (by simp [hcs]), c1]
   simp only [Result.andThen_ok, hrun]
 refine gM hr ?_
 rw [hd]
 refine ⟨_, ⟨_, ?_, hT.step w'⟩, hnext⟩
 show WD E A n B M (gX false i e sz (cells enc (xs.set j y0)) (xs.set j y0).length :: F.eraseIdx k1) w'
 have hlen' : (xs.set j y0).length = xs.length := by simp
 rw [hlen']
 exact hW.turnX hF hi hX hnew
theorem eJ0 {α : Type} {enc : α → List Value} {sz : Nat} (he : Enc enc sz) (z0 : α) {t e : TypeId} {x : Operand} {kd : IntKind} {m : Int} {d : Nat} {agg : Bool} {size : Nat} {zero : List Value} {fs : List (Nat × Nat × Bool)} {ik : Option IntKind} {kk bytes : Nat} {agg2 : Bool} {zero2 : List Value} {fs2 : List (Nat × Nat × Bool)} {el2 : Option TypeId} {ik2 : Option IntKind} {kk2 bytes2 : Nat}
   (hti : ∀ t, aT E.P t (ti t)) (hop : o.op = .makeSlice t x x) (hx : aY T x = some (.v (.int kd m)))
   (ht : ti t = .mk agg size zero fs (some e) ik kk bytes) (hte : ti e = .mk agg2 sz zero2 fs2 el2 ik2 kk2 bytes2) (hz : zero2 = enc z0) (h0 : 0 < sz) (hd : Dst E o d)
   (q : Nat) (hq : m = (q : Int)) (hb : bytes2 * q ≤ 281474976710656) (hm : q ≤ maxLen)
   (hnext : ∀ y : Sl, next (.mk ((d, .v (y.val q)) :: T) n (c + 1) B M (own y e enc sz (List.replicate q z0) :: F))) :
   OpW (cQ E o next T n c B M F) := by
 refine ⟨fun A a w hW hT => ?_⟩
 have htt := hti t
 rw [ht] at htt
 obtain ⟨ii, dd, z, e1, e2, e3, e4, e5, e6, e7, e8, e9, e10, e11⟩ := aP htt
 have htt2 := hti e
 rw [hte] at htt2
 obtain ⟨ii2, dd2, z2, k1, k2, k3, k4, k5, k6, k7, k8, k9, k10, k11⟩ := aP htt2
 have hdd := fT e8
 subst hq
 obtain ⟨w', hr, ho, hg⟩ := run_make_full (P := E.P) w 0 t e ii2 z2 sz (by rw [e2, hdd]) k1 k5 k4 kd kd q (by rw [k11]; exact hb) hm (Nat.zero_le _)
 have hx' : a.eval x = .int kd (q : Int) := (aE hT hx).1
 have hrr : (execOp a.eval o).run E.P w = .ok (.value (.slice (some ⟨w.heap.size, 0, none⟩) q q)) w' := by
   simp only [execOp, hop, hx', hr, Sem.run_bind, Sem.run_pure, Result.andThen_ok]
 have hzc : z2.cells.toList = enc z0 := by rw [k6, hz]
 have hcells : (madeCells z2.cells (q * sz)).toList = cells enc (List.replicate q z0) := by
   have hzs : z2.cells.size = sz := by have := congrArg List.length hzc; rw [he.len] at this; simpa using this
   apply List.ext_getElem?
   intro j
   by_cases hj : j < q * sz
   · have hk : j / sz < q := Nat.div_lt_of_lt_mul (by rwa [Nat.mul_comm] at hj)
     have hrm : j % sz < sz := Nat.mod_lt _ h0
     have hr' : j % sz < (enc ((List.replicate q z0)[j / sz]'(by simpa using hk))).length := by rw [he.len]; exact hrm
     have h2 := oQ he (xs := List.replicate q z0) (by simpa using hk) (List.getElem?_eq_getElem hr')
     rw [Nat.div_add_mod'] at h2
     rw [h2]
     simp only [madeCells, Array.toList_map, Array.toList_range, List.getElem?_map, List.getElem?_range hj, Option.map_some, List.getElem_replicate]
     congr 1
     rw [hzs, getElem!_pos z2.cells (j % sz) (by rw [hzs]; exact hrm)]
     have : z2.cells[j % sz]'(by rw [hzs]; exact hrm) = z2.cells.toList[j % sz]'(by simpa [hzs] using hrm) := by simp
     rw [this]
     simp only [hzc]
   · rw [List.getElem?_eq_none (by simp [madeCells]; omega), List.getElem?_eq_none (by rw [kH he]; simp; omega)]
 rw [hcells] at ho
 refine aQ hrr ?_
 rw [hd.1]
 have hnew : New w w' [own (⟨some ⟨w.heap.size, 0, none⟩, q⟩ : Sl) e enc sz (List.replicate q z0)] := by
   refine ⟨fun f hf => ?_, List.pairwise_singleton _ _⟩
   simp only [List.mem_singleton] at hf
   subst hf
   have ho' : w'.ownsRow 0 e sz ((⟨some ⟨w.heap.size, 0, none⟩, q⟩ : Sl).val (List.replicate q z0).length) (List.replicate q z0).length (cells enc (List.replicate q z0)) := by
     rw [List.length_replicate]; exact ho
   refine ⟨ho', rfl, ?_⟩
   rintro b ⟨ad, q1, rfl⟩
   simp only [Option.some.injEq] at q1
   subst q1
   have hlt := (ho.lt w.heap.size (by simp [Value.ownBlock])).2
   exact ⟨Nat.le_refl _, hlt⟩
 have hex : Ext w w' := ExtX.grown hg (fun g hg => by cases hg)
 exact ⟨_, ⟨_, hW.learn hex hnew, (hT.step w').put (v := .v ((⟨some ⟨w.heap.size, 0, none⟩, q⟩ : Sl).val q)) hd.lt trivial⟩, hnext _⟩
end
end Go.Sx
